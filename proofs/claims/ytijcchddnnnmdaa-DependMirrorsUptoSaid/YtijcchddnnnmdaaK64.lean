/- Part 4 of the proof: rules, mirrors and plain laws. The statement DependMirrorsUpto is proved here: for every list of declarations and every two bytes the law returns true, and the arguments read behind the call as they did before; condition: the arguments are of bulk at most 1048576 (the second form). -/
import Derived.Test.YtijcchddnnnmdaaK63
namespace Go.Proofs.Ytijcchddnnnmdaa
open Go.RowKit Go.Shelf
set_option linter.unusedSimpArgs false
set_option linter.unusedVariables false
theorem el_48 : Ya Try.prog 48 = some (23, 360) := by kernel_rfl
def m39f13_l0 (a0 : List (List Int)) (s2 : (List Bool) × Int) (a2 : Bool) (a1 : List Bool) (s3 : (List Bool) × Int) : Option (LO ((List Bool) × Int) (((List Bool)))) :=
 Option.bind (J1 a0 s2.2) fun (x6 : List Int) =>
 cond (decide (s3.2 < (x6.length : Int)))
   (Option.bind (J1 a0 s2.2) fun (x8 : List Int) =>
 Option.bind (J1 x8 s3.2) fun (x9 : Int) =>
 Option.bind (cond a2
   (Option.bind (J1 s3.1 x9) fun (x12 : Bool) =>
 Qm (Nat.beq (Enc.encL s3.1).length ((Enc.encL a1).length))
 (some x12))
   (some false)) (fun (v10 : Bool) => Option.bind (cond v10
   (Option.bind (J1 s3.1 s2.2) fun (x13 : Bool) =>
 Qm (Nat.beq (Enc.encL s3.1).length ((Enc.encL a1).length))
 (some (s3.1.set s2.2.toNat true)))
   (some s3.1)) (fun (v11 : (List Bool)) => Option.bind (cond (!a2)
   (Option.bind (J1 v11 s2.2) fun (x14 : Bool) =>
 Qm (Nat.beq (Enc.encL v11).length ((Enc.encL a1).length))
 (some x14))
   (some false)) (fun (v12 : Bool) => cond v12
   (Option.bind (J1 v11 x9) fun (x14 : Bool) =>
 Qm (Nat.beq (Enc.encL v11).length ((Enc.encL a1).length))
 (some (.next ((v11.set x9.toNat true), (QW (s3.2 + 1))))))
   (some (.next (v11, (QW (s3.2 + 1)))))))))
   (some (.done s3.1))
def m39f13_l1 (a0 : List (List Int)) (a2 : Bool) (a1 : List Bool) (s2 : (List Bool) × Int) : Option (LO ((List Bool) × Int) (((List Bool)))) :=
 cond (decide (s2.2 < (a0.length : Int)))
   (Option.bind (Qo (m39f13_l0 a0 s2 a2 a1) QB (s2.1, 0)) (fun (o5 : (List Bool)) => some (.next (o5, (QW (s2.2 + 1))))))
   (some (.done s2.1))
def m39f13_l2 (a0 : List (List Int)) (a2 : Bool) (a1 : List Bool) (s1 : (List Bool) × Int) : Option (LO ((List Bool) × Int) (((List Bool)))) :=
 cond (decide (s1.2 < (a0.length : Int)))
   (Option.bind (Qo (m39f13_l1 a0 a2 a1) QB (s1.1, 0)) (fun (o3 : (List Bool)) => some (.next (o3, (QW (s1.2 + 1))))))
   (some (.done s1.1))
def m39f13 (a0 : List (List Int)) (a1 : List Bool) (a2 : Bool) : Option ((List Bool)) :=
 Option.bind (Qo (m39f13_l2 a0 a2 a1) QB (a1, 0)) (fun (o1 : (List Bool)) => Qm (Nat.beq (Enc.encL o1).length ((Enc.encL a1).length))
 (some o1))
def m16_l0 (a0 : List Dcl) (s2 : (List Bool) × Int) : Option (LO ((List Bool) × Int) (((List Bool)))) :=
 cond (decide (s2.2 < (a0.length : Int)))
   (Qm (Nat.ble (s2.1.length + ([false]).length) 1000000000)
 (some (.next ((s2.1 ++ ([false])), (QW (s2.2 + 1))))))
   (some (.done s2.1))
def m16_l1 (a1 : List Wy) (a0 : List Dcl) (o7 : (List Bool)) (s2 : (List Bool) × Int) : Option (LO ((List Bool) × Int) (((List Bool)) ⊕ (Unit ⊕ ((List Bool))))) :=
 cond (decide (s2.2 < (a1.length : Int)))
   (Option.bind (J1 a1 s2.2) fun (x10 : Wy) =>
 Option.bind (m48 a0 x10) fun (x11 : Int) =>
 cond (decide (x11 < 0))
   (some (.done (.inr (.inl ()))))
   (Option.bind (J1 s2.1 x11) fun (x13 : Bool) =>
 Qm (Nat.beq (Enc.encL s2.1).length ((Enc.encL o7).length))
 (some (.next ((s2.1.set x11.toNat true), (QW (s2.2 + 1)))))))
   (some (.done (.inl s2.1)))
def m16_l2 (a0 : List Dcl) (x20 : (List Bool)) (s1 : (List Dcl) × Int) : Option (LO ((List Dcl) × Int) (((List Dcl)))) :=
 cond (decide (s1.2 < (a0.length : Int)))
   (Option.bind (J1 x20 s1.2) fun (x23 : Bool) =>
 cond x23
   (Option.bind (J1 a0 s1.2) fun (x25 : Dcl) =>
 Qm (Nat.ble (s1.1.length + ([x25]).length) 1000000000)
 (some (.next ((s1.1 ++ ([x25])), (QW (s1.2 + 1))))))
   (some (.next (s1.1, (QW (s1.2 + 1))))))
   (some (.done s1.1))
def m16 (a0 : List Dcl) (a1 : List Wy) : Option ((List Dcl) × Int) :=
 Option.bind (m25 a0) fun (x1 : (List (List Int)) × Int) =>
 cond (x1.2 != 0)
   (some (([] : List Dcl), x1.2))
   (Option.bind (Option.bind (Qo (m16_l0 a0) QB (([] : List Bool), 0)) (fun (o7 : (List Bool)) => Option.bind (Qo (m16_l1 a1 a0 o7) QB (o7, 0)) (Sum.elim (fun (o8 : (List Bool)) => Qm (Nat.beq (Enc.encL o8).length ((Enc.encL o7).length))
 (some (.inr o8))) (fun o => some o)))) (Sum.elim (fun (y3 : Unit) => some (([] : List Dcl), 9)) (fun (y4 : (List Bool)) => Option.bind (m39f13 x1.1 y4 false) fun (x20 : (List Bool)) =>
 Option.bind (Qo (m16_l2 a0 x20) QB (([] : List Dcl), 0)) (fun (o21 : (List Dcl)) => some (o21, 0)))))
def m13_l0 (a0 : List Dcl) (s2 : (List Bool) × Int) : Option (LO ((List Bool) × Int) (((List Bool)))) :=
 cond (decide (s2.2 < (a0.length : Int)))
   (Qm (Nat.ble (s2.1.length + ([false]).length) 1000000000)
 (some (.next ((s2.1 ++ ([false])), (QW (s2.2 + 1))))))
   (some (.done s2.1))
def m13_l1 (a1 : List Wy) (a0 : List Dcl) (o7 : (List Bool)) (s2 : (List Bool) × Int) : Option (LO ((List Bool) × Int) (((List Bool)) ⊕ (Unit ⊕ ((List Bool))))) :=
 cond (decide (s2.2 < (a1.length : Int)))
   (Option.bind (J1 a1 s2.2) fun (x10 : Wy) =>
 Option.bind (m48 a0 x10) fun (x11 : Int) =>
 cond (decide (x11 < 0))
   (some (.done (.inr (.inl ()))))
   (Option.bind (J1 s2.1 x11) fun (x13 : Bool) =>
 Qm (Nat.beq (Enc.encL s2.1).length ((Enc.encL o7).length))
 (some (.next ((s2.1.set x11.toNat true), (QW (s2.2 + 1)))))))
   (some (.done (.inl s2.1)))
def m13_l2 (a0 : List Dcl) (x20 : (List Bool)) (s1 : (List Wy) × Int) : Option (LO ((List Wy) × Int) (((List Wy)))) :=
 cond (decide (s1.2 < (a0.length : Int)))
   (Option.bind (J1 x20 s1.2) fun (x23 : Bool) =>
 cond x23
   (Option.bind (J1 a0 s1.2) fun (x25 : Dcl) =>
 Option.bind (X9 x25) fun (x26 : (List Wy)) =>
 Qm (Nat.ble (s1.1.length + x26.length) 1000000000)
 (some (.next ((s1.1 ++ x26), (QW (s1.2 + 1))))))
   (some (.next (s1.1, (QW (s1.2 + 1))))))
   (some (.done s1.1))
def m13 (a0 : List Dcl) (a1 : List Wy) : Option ((List Wy) × Int) :=
 Option.bind (m25 a0) fun (x1 : (List (List Int)) × Int) =>
 cond (x1.2 != 0)
   (some (([] : List Wy), x1.2))
   (Option.bind (Option.bind (Qo (m13_l0 a0) QB (([] : List Bool), 0)) (fun (o7 : (List Bool)) => Option.bind (Qo (m13_l1 a1 a0 o7) QB (o7, 0)) (Sum.elim (fun (o8 : (List Bool)) => Qm (Nat.beq (Enc.encL o8).length ((Enc.encL o7).length))
 (some (.inr o8))) (fun o => some o)))) (Sum.elim (fun (y3 : Unit) => some (([] : List Wy), 9)) (fun (y4 : (List Bool)) => Option.bind (m39f13 x1.1 y4 true) fun (x20 : (List Bool)) =>
 Option.bind (Qo (m13_l2 a0 x20) QB (([] : List Wy), 0)) (fun (o21 : (List Wy)) => some (o21, 0)))))
end Go.Proofs.Ytijcchddnnnmdaa
namespace Go.Proofs.Ytijcchddnnnmdaa
open Go.RowKit Go.Lib
set_option linter.unusedSimpArgs false
set_option linter.unusedVariables false
set_option linter.unusedSectionVars false
def Wt (b : List Bool) (i : Nat) : Prop := b[i]? = some true
def Gp (E : Nat → Nat → Prop) (C : Nat → Prop) : Prop := ∀ i j, E i j → C i → C j
structure Least (E : Nat → Nat → Prop) (n : Nat) (S : Nat → Prop) (b : List Bool) : Prop where
  len : b.length = n
  start : ∀ i, S i → Wt b i
  cl : Gp E (Wt b)
  min : ∀ C : Nat → Prop, (∀ i, S i → C i) → Gp E C → ∀ i, Wt b i → C i
theorem on_set {b : List Bool} {i : Nat} (hi : i < b.length) (k : Nat) : Wt (b.set i true) k ↔ k = i ∨ Wt b k := by
  unfold Wt
  rw [List.getElem?_set]
  by_cases e : i = k
  · subst e; rw [if_pos rfl, if_pos hi]; simp
  · rw [if_neg e]; exact ⟨.inr, fun h => h.elim (fun h => absurd h.symm e) id⟩
theorem on_cases {b : List Bool} {i : Nat} (hi : i < b.length) : (b[i]? = some true ∧ Wt b i) ∨ (b[i]? = some false ∧ ¬ Wt b i) := by
  have e1 : b[i]? = some b[i] := List.getElem?_eq_getElem hi
  unfold Wt
  rw [e1]
  cases b[i] <;> simp
theorem off_on (n i : Nat) : ¬ Wt (List.replicate n false) i := by
  unfold Wt
  rw [List.getElem?_replicate]
  split <;> simp
def Xc : List Bool → Nat
  | [] => 0
  | true :: b => Xc b
  | false :: b => Xc b + 1
theorem cnt_le : ∀ b : List Bool, Xc b ≤ b.length
  | [] => Nat.le_refl _
  | true :: b => by have := cnt_le b; simp only [Xc, List.length_cons]; omega
  | false :: b => by have := cnt_le b; simp only [Xc, List.length_cons]; omega
theorem cnt_mono : ∀ (a b : List Bool), a.length = b.length → (∀ i, Wt a i → Wt b i) → Xc b ≤ Xc a
  | [], [], _, _ => Nat.le_refl _
  | [], _ :: _, h, _ => by cases h
  | _ :: _, [], h, _ => by cases h
  | x :: a, y :: b, hl, h => by
    have ih := cnt_mono a b (by simpa using hl) fun i hi => h (i + 1) hi
    cases x <;> cases y <;> simp only [Xc] <;> try omega
    have := h 0 rfl
    cases this
theorem cnt_set : ∀ (b : List Bool) (i : Nat), b[i]? = some false → Xc (b.set i true) < Xc b
  | [], i, h => by cases h
  | x :: b, 0, h => by cases h; simp only [List.set_cons_zero, Xc]; omega
  | x :: b, i + 1, h => by
    have := cnt_set b i h
    cases x <;> simp only [List.set_cons_succ, Xc] <;> omega
def Ed (g : List (List Int)) (i j : Nat) : Prop := ∃ l, g[i]? = some l ∧ (j : Int) ∈ l
def GrB (g : List (List Int)) (n B : Nat) : Prop := g.length = n ∧ ∀ l ∈ g, l.length ≤ B ∧ ∀ j ∈ l, ∃ k : Nat, k < n ∧ j = (k : Int)
theorem Ed.lt {g : List (List Int)} {n B i j : Nat} (hg : GrB g n B) (h : Ed g i j) : i < n ∧ j < n := by
  obtain ⟨l, h1, h2⟩ := h
  obtain ⟨h3, h4⟩ := List.getElem?_eq_some_iff.1 h1
  obtain ⟨k, h5, h6⟩ := (hg.2 l (List.mem_of_getElem? h1)).2 _ h2
  exact ⟨by rw [← hg.1]; exact h3, by omega⟩
structure Vis (E : Nat → Nat → Prop) (b b' : List Bool) (T : Nat → Prop) : Prop where
  len : b'.length = b.length
  mono : ∀ k, Wt b k → Wt b' k
  tgt : ∀ i, T i → Wt b' i
  cl : ∀ k j, Wt b' k → ¬ Wt b k → E k j → Wt b' j
  min : ∀ C : Nat → Prop, Gp E C → (∀ i, T i → C i) → ∀ k, Wt b' k → Wt b k ∨ C k
theorem Vis.refl {E : Nat → Nat → Prop} {b : List Bool} {T : Nat → Prop} (h : ∀ i, T i → Wt b i) : Vis E b b T :=
  ⟨rfl, fun _ h => h, h, fun k j h1 h2 _ => absurd h1 h2, fun _ _ _ _ h => .inl h⟩
theorem Vis.trans {E : Nat → Nat → Prop} {b b' b'' : List Bool} {T T' T'' : Nat → Prop} (h : Vis E b b' T) (h' : Vis E b' b'' T') (hT : ∀ i, T'' i ↔ T i ∨ T' i) : Vis E b b'' T'' where
  len := by rw [h'.len, h.len]
  mono k hk := h'.mono k (h.mono k hk)
  tgt i hi := ((hT i).1 hi).elim (fun e => h'.mono i (h.tgt i e)) (h'.tgt i)
  cl k j h1 h2 e := by
    by_cases h3 : Wt b' k
    · exact h'.mono j (h.cl k j h3 h2 e)
    · exact h'.cl k j h1 h3 e
  min C W9 hT' k hk := (h'.min C W9 (fun i hi => hT' i ((hT i).2 (.inr hi))) k hk).elim (h.min C W9 (fun i hi => hT' i ((hT i).2 (.inl hi))) k) .inr
theorem Vis.enter {E : Nat → Nat → Prop} {b b' : List Bool} {i : Nat} (hi : i < b.length) (h : Vis E (b.set i true) b' (E i)) : Vis E b b' (fun k => k = i) where
  len := by rw [h.len, List.length_set]
  mono k hk := h.mono k ((on_set hi k).2 (.inr hk))
  tgt k hk := h.mono k ((on_set hi k).2 (.inl hk))
  cl k j h1 h2 e := by
    by_cases h3 : k = i
    · subst h3; exact h.tgt j e
    · exact h.cl k j h1 (fun h4 => ((on_set hi k).1 h4).elim h3 h2) e
  min C W9 hT k hk := (h.min C W9 (fun j hj => W9 i j hj (hT i rfl)) k hk).elim (fun h4 => ((on_set hi k).1 h4).elim (fun e => .inr (by rw [e]; exact hT i rfl)) .inl) .inr
theorem Vis.least {E : Nat → Nat → Prop} {n : Nat} {T : Nat → Prop} {b : List Bool} (h : Vis E (List.replicate n false) b T) : Least E n T b where
  len := by rw [h.len, List.length_replicate]
  start := h.tgt
  cl i j e hi := h.cl i j hi (off_on n i) e
  min C hT W9 i hi := (h.min C W9 hT i hi).elim (fun h => absurd h (off_on n i)) id
theorem dfs {g : List (List Int)} {n B : Nat} (hg : GrB g n B) (hB : B ≤ 900000000) : ∀ (fuel i : Nat) (b : List Bool), i < n → b.length = n → Xc b < fuel →
    ∃ b', Yn m56f12F fuel ((i : Int), n, b, g) = some b' ∧ Vis (Ed g) b b' (fun k => k = i) := by
  intro fuel
  induction fuel with
  | zero => intro i b _ _ h; omega
  | succ fuel ih =>
    intro i b hi hb hc
    show ∃ b', G1 (Yn m56f12F fuel) (i : Int) n b g = some b' ∧ _
    unfold G1
    rcases on_cases (b := b) (i := i) (by omega) with ⟨e, ho⟩ | ⟨e, ho⟩
    · rw [KQ e]
      simp only [Option.bind_some]
      rw [Yx hb]
      exact ⟨b, rfl, .refl fun k hk => by rw [hk]; exact ho⟩
    · rw [KQ e]
      simp only [Option.bind_some]
      rw [Yx hb]
      simp only [cond_false]
      rw [Yx hb]
      have hil : i < g.length := by rw [hg.1]; exact hi
      have el : g[i]? = some g[i] := List.getElem?_eq_getElem hil
      obtain ⟨hl1, hl2⟩ := hg.2 g[i] (List.getElem_mem hil)
      rw [KQ el]
      simp only [Option.bind_some, Int.toNat_natCast]
      obtain ⟨b', e1, h1⟩ := JD (step := Zh g[i] (Yn m56f12F fuel) n g) g[i] (fun k s => (k, s))
        (fun a s => Vis (Ed g) (b.set i true) s (fun k => (k : Int) ∈ a)) (fun r => Vis (Ed g) (b.set i true) r (fun k => (k : Int) ∈ g[i])) (by omega)
        (fun a x c s e2 hI => by
          obtain ⟨k, hk, rfl⟩ := hl2 x (by rw [e2]; simp)
          have hcs := cnt_set b i e
          have hcm := cnt_mono (b.set i true) s hI.len.symm hI.mono
          obtain ⟨s', e3, h3⟩ := ih k s hk (by rw [hI.len, List.length_set]; exact hb) (by omega)
          refine .inr ⟨s', ?_, hI.trans h3 fun j => ?_⟩
          · unfold Zh
            dsimp only
            rw [e2, Ji, J6]
            simp only [cond_true, Option.bind_some]
            rw [e3]; rfl
          · rw [List.mem_append, List.mem_singleton]
            exact ⟨fun h => h.elim .inl fun h => .inr (by omega), fun h => h.elim .inl fun h => .inr (by omega)⟩)
        (fun s hI => ⟨s, by unfold Zh; dsimp only; rw [Jz]; rfl, hI⟩) (b.set i true) (.refl fun k hk => by cases hk)
      rw [e1]
      refine ⟨b', rfl, Vis.enter (by omega) ⟨h1.len, h1.mono, fun k hk => h1.tgt k ?_, h1.cl, fun C W9 hT k hk => h1.min C W9 (fun j hj => hT j ⟨g[i], el, hj⟩) k hk⟩⟩
      obtain ⟨l, h2, h3⟩ := hk
      rw [el] at h2
      cases h2
      exact h3
def K0 (env : List Dcl) (a : List Wy) (i : Nat) : Prop := ∃ s ∈ a, Z1 0 env s = some (i : Int)
theorem visits_eq {env : List Dcl} {g rv : List (List Int)} {M : Wu} {n B : Nat} (hn : env.length = n) (hg : GrB rv n B) (hB : B ≤ 900000000) (hN : n ≤ 900000000) (hM : ∀ s, Z3 M s = Z1 0 env s) (a : List Wy) (ha : a.length ≤ 900000000) :
    ∃ r, Qo (ZE a (g, M) rv) QB (0, List.replicate n false) = some r ∧
      (((∀ s ∈ a, s ∈ QE env) ∧ ∃ b, r = .inl b ∧ Least (Ed rv) n (K0 env a) b) ∨ (¬ (∀ s ∈ a, s ∈ QE env) ∧ r = .inr (.inl ()))) := by
  refine JD (step := ZE a (g, M) rv) a (fun k s => (k, s)) (fun p s => (∀ x ∈ p, x ∈ QE env) ∧ Vis (Ed rv) (List.replicate n false) s (K0 env p)) _ ha ?_ ?_ _ ⟨fun x hx => (by cases hx), .refl fun i hi => (by obtain ⟨s, hs, -⟩ := hi; cases hs)⟩
  · rintro p x c s e ⟨hp, hI⟩
    by_cases hx : x ∈ QE env
    · obtain ⟨k, hk, e1⟩ := ownV_range hx
      have hb : s.length = n := by rw [hI.len, List.length_replicate]
      have hcs := cnt_le s
      obtain ⟨s', e2, h2⟩ := dfs hg hB QB k s (by omega) hb (by unfold QB; omega)
      refine .inr ⟨s', ?_, fun y hy => (List.mem_append.1 hy).elim (hp y) (fun h => by rw [List.mem_singleton.1 h]; exact hx), hI.trans h2 fun i => ?_⟩
      · unfold ZE
        dsimp only
        have e3 : Jr M x = true := by unfold Jr; rw [hM, e1]; rfl
        have e4 : J7 M x = (k : Int) := by unfold J7; rw [hM, e1]; rfl
        rw [e, Ji, J6]
        simp only [cond_true, Option.bind_some]
        rw [e3, e4, hg.1]
        simp only [Bool.not_true, cond_false, Int.toNat_natCast]
        unfold m56f12
        rw [e2]; rfl
      · unfold K0
        constructor
        · rintro ⟨y, hy, e3⟩
          rcases List.mem_append.1 hy with h | h
          · exact .inl ⟨y, h, e3⟩
          · rw [List.mem_singleton.1 h, e1] at e3
            exact .inr (by injection e3; omega)
        · rintro (⟨y, hy, e3⟩ | rfl)
          · exact ⟨y, List.mem_append_left _ hy, e3⟩
          · exact ⟨x, by simp, e1⟩
    · refine .inl ⟨_, ?_, .inr ⟨fun h => hx (h x (by rw [e]; simp)), rfl⟩⟩
      unfold ZE
      dsimp only
      have e3 : Jr M x = false := by unfold Jr; rw [hM, (Zf x env 0).2 hx]; rfl
      rw [e, Ji, J6]
      simp only [cond_true, Option.bind_some]
      rw [e3]; rfl
  · rintro s ⟨hp, hI⟩
    refine ⟨.inl s, ?_, .inl ⟨hp, s, rfl, hI.least⟩⟩
    unfold ZE
    dsimp only
    rw [Jz]; rfl
end Go.Proofs.Ytijcchddnnnmdaa
namespace Go.Proofs.Ytijcchddnnnmdaa
open Go.RowKit Go.Lib
set_option linter.unusedSimpArgs false
set_option linter.unusedVariables false
set_option linter.unusedSectionVars false
structure Up (E : Nat → Nat → Prop) (b b' : List Bool) (T : Nat → Nat → Prop) : Prop where
  len : b'.length = b.length
  mono : ∀ k, Wt b k → Wt b' k
  stp : ∀ s t, T s t → Wt b s → Wt b' t
  min : ∀ C : Nat → Prop, Gp E C → (∀ k, Wt b k → C k) → ∀ k, Wt b' k → C k
def Wx (d : Bool) (g : List (List Int)) (i j : Nat) : Prop := cond d (Ed g j i) (Ed g i j)
theorem GrB.set {rv : List (List Int)} {n B : Nat} (h : GrB rv n B) {j i : Nat} {l : List Int} (hj : rv[j]? = some l) (hi : i < n) (hl : l.length < B) : GrB (rv.set j (l ++ [(i : Int)])) n B := by
  refine ⟨by rw [List.length_set]; exact h.1, fun m hm => ?_⟩
  rcases List.mem_or_eq_of_mem_set hm with hm | rfl
  · exact h.2 m hm
  · obtain ⟨h1, h2⟩ := h.2 l (List.mem_of_getElem? hj)
    refine ⟨by simp; omega, fun x hx => ?_⟩
    rcases List.mem_append.1 hx with hx | hx
    · exact h2 x hx
    · exact ⟨i, hi, List.mem_singleton.1 hx⟩
theorem GrB.le {rv : List (List Int)} {n B B' : Nat} (h : GrB rv n B) (hB : B ≤ B') : GrB rv n B' := ⟨h.1, fun l hl => ⟨Nat.le_trans (h.2 l hl).1 hB, (h.2 l hl).2⟩⟩
theorem Ed.set {rv : List (List Int)} {j i : Nat} {l : List Int} (hj : rv[j]? = some l) (a b : Nat) : Ed (rv.set j (l ++ [(i : Int)])) a b ↔ Ed rv a b ∨ (a = j ∧ b = i) := by
  unfold Ed
  have hjl := (List.getElem?_eq_some_iff.1 hj).1
  rw [List.getElem?_set]
  by_cases e : j = a
  · subst e
    rw [if_pos rfl, if_pos hjl, hj]
    constructor
    · rintro ⟨m, hm, hb⟩
      cases hm
      rcases List.mem_append.1 hb with hb | hb
      · exact .inl ⟨l, rfl, hb⟩
      · have := List.mem_singleton.1 hb
        exact .inr ⟨rfl, by omega⟩
    · rintro (⟨m, hm, hb⟩ | ⟨-, rfl⟩)
      · cases hm; exact ⟨_, rfl, List.mem_append_left _ hb⟩
      · exact ⟨_, rfl, by simp⟩
  · rw [if_neg e]
    exact ⟨.inl, fun h => h.elim id fun h => absurd h.1.symm e⟩
theorem turn_row {g : List (List Int)} {n : Nat} (hn : n ≤ 1000) (hgl : g.length = n) (x : List Int) (hx : x.length ≤ n) (hx2 : ∀ j ∈ x, ∃ k : Nat, k < n ∧ j = (k : Int)) (i B : Nat) (hi : i < n) (hB : B ≤ 900000000) (rv : List (List Int)) (hr : GrB rv n B) :
    ∃ r, Qo (KN x g ((i : Int), rv)) QB (0, rv) = some r ∧ GrB r n (B + n) ∧ ∀ a b, Ed r a b ↔ Ed rv a b ∨ ((a : Int) ∈ x ∧ b = i) := by
  obtain ⟨r, e1, h1, h2⟩ := JD (step := KN x g ((i : Int), rv)) x (fun k s => (k, s))
    (fun p s => GrB s n (B + p.length) ∧ ∀ a b, Ed s a b ↔ Ed rv a b ∨ ((a : Int) ∈ p ∧ b = i)) (fun r => GrB r n (B + x.length) ∧ ∀ a b, Ed r a b ↔ Ed rv a b ∨ ((a : Int) ∈ x ∧ b = i)) (by omega)
    (fun p y c s e hI => by
      obtain ⟨hI, hE⟩ := hI
      obtain ⟨k, hk, rfl⟩ := hx2 y (by rw [e]; simp)
      have hpx := YS e
      have hks : k < s.length := by rw [hI.1]; exact hk
      have ek : s[k]? = some s[k] := List.getElem?_eq_getElem hks
      have hlk := (hI.2 s[k] (List.getElem_mem _)).1
      refine .inr ⟨s.set k (s[k] ++ [(i : Int)]), ?_, ?_, ?_⟩
      · unfold KN
        dsimp only
        rw [e, Ji, J6]
        simp only [cond_true, Option.bind_some]
        rw [KQ ek]
        simp only [Option.bind_some, Int.toNat_natCast]
        rw [Yx (by rw [hI.1, hgl]), Jq (by rw [hI.1]; exact hn), Jq (by simp; omega), Yx (by rw [hI.1, hgl]), Jq (by rw [hI.1]; exact hn)]
      · rw [List.length_append, List.length_singleton, ← Nat.add_assoc]
        exact (hI.le (Nat.le_succ _)).set ek hi (by omega)
      · intro a b
        rw [Ed.set ek, hE, List.mem_append, List.mem_singleton]
        constructor
        · rintro ((h | ⟨h, h'⟩) | ⟨h, h'⟩)
          · exact .inl h
          · exact .inr ⟨.inl h, h'⟩
          · exact .inr ⟨.inr (by omega), h'⟩
        · rintro (h | ⟨h | h, h'⟩)
          · exact .inl (.inl h)
          · exact .inl (.inr ⟨h, h'⟩)
          · exact .inr ⟨by omega, h'⟩)
    (fun s hI => ⟨s, by unfold KN; dsimp only; rw [Jz]; rfl, hI⟩) rv ⟨hr, fun a b => ⟨.inl, fun h => h.elim id fun h => absurd h.1 (by simp)⟩⟩
  exact ⟨r, e1, h1.le (by omega), h2⟩
theorem m36_eq {g : List (List Int)} {n : Nat} (hg : GrB g n n) (hn : n ≤ 1000) : ∃ rv, XB g = some rv ∧ GrB rv n (n * n) ∧ ∀ i j, Ed rv i j ↔ Ed g j i := by
  have hnn : n * n ≤ 1000 * 1000 := Nat.mul_le_mul hn hn
  unfold XB
  rw [hg.1]
  simp only [Int.toNat_natCast]
  rw [show decide (0 ≤ (n : Int)) = true from by rw [decide_eq_true_eq]; omega]
  simp only [cond_true]
  rw [Jq hn]
  obtain ⟨r, e1, h1, h2⟩ := JD (step := Gi g) g (fun k s => (k, s))
    (fun p s => GrB s n (p.length * n) ∧ ∀ a b, Ed s a b ↔ b < p.length ∧ Ed g b a) (fun r => GrB r n (g.length * n) ∧ ∀ a b, Ed r a b ↔ b < g.length ∧ Ed g b a) (by rw [hg.1]; omega)
    (fun p x c s e hI => by
      obtain ⟨hI, hE⟩ := hI
      have hpn : p.length < n := by rw [← hg.1]; exact YS e
      have hxg := hg.2 x (by rw [e]; simp)
      have ep : g[p.length]? = some x := by rw [e]; simp
      obtain ⟨s', e2, h2, h3⟩ := turn_row hn hg.1 x hxg.1 hxg.2 p.length (p.length * n) hpn (by have := Nat.mul_le_mul_right n (Nat.le_of_lt hpn); omega) s hI
      refine .inr ⟨s', ?_, ?_, ?_⟩
      · unfold Gi
        dsimp only
        rw [show decide ((p.length : Int) < (g.length : Int)) = true from by rw [e, Ji], show J1 g (p.length : Int) = some x from KQ ep]
        simp only [cond_true, Option.bind_some]
        rw [e2]; rfl
      · rw [List.length_append, List.length_singleton, Nat.succ_mul]
        exact h2
      · intro a b
        rw [h3, hE, List.length_append, List.length_singleton]
        constructor
        · rintro (⟨h, h'⟩ | ⟨h, rfl⟩)
          · exact ⟨by omega, h'⟩
          · exact ⟨by omega, x, ep, h⟩
        · rintro ⟨h, h'⟩
          by_cases hb : b = p.length
          · subst hb
            obtain ⟨l, h4, h5⟩ := h'
            rw [ep] at h4; cases h4
            exact .inr ⟨h5, rfl⟩
          · exact .inl ⟨by omega, h'⟩)
    (fun s hI => ⟨s, by unfold Gi; dsimp only; rw [Jz]; rfl, hI⟩) (List.replicate n []) ⟨⟨by simp, fun l hl => by rw [List.eq_of_mem_replicate hl]; exact ⟨Nat.zero_le _, fun j hj => by cases hj⟩⟩, fun a b => by
      constructor
      · rintro ⟨l, h1, h2⟩
        rw [List.getElem?_replicate] at h1
        split at h1
        · cases h1; cases h2
        · cases h1
      · rintro ⟨h, -⟩; exact absurd h (by simp)⟩
  rw [e1]
  simp only [Option.bind_some]
  rw [Yx h1.1, ← hg.1]
  rw [hg.1] at h1
  refine ⟨r, rfl, by rw [hg.1]; exact h1, fun i j => (h2 i j).trans ⟨fun h => h.2, fun h => ⟨by rw [hg.1]; exact (h.lt hg).1, h⟩⟩⟩
end Go.Proofs.Ytijcchddnnnmdaa
namespace Go.Proofs.Ytijcchddnnnmdaa
open Go.RowKit Go.Shelf
set_option linter.unusedSimpArgs false
set_option linter.unusedVariables false
theorem st_9 : Kw Try.prog 9 = true := by kernel_rfl
theorem en_9 : J9 Try.prog 9 := enters_of Try.func9 (by kernel_rfl) rfl
theorem en_30 : J9 Try.prog 30 := enters_of Try.func30 (by kernel_rfl) rfl
theorem en_50 : J9 Try.prog 50 := enters_of Try.func50 (by kernel_rfl) rfl
theorem en_51 : J9 Try.prog 51 := enters_of Try.func51 (by kernel_rfl) rfl
theorem en_65 : J9 Try.prog 65 := enters_of Try.func65 (by kernel_rfl) rfl
theorem en_66 : J9 Try.prog 66 := enters_of Try.func66 (by kernel_rfl) rfl
def Gg (a0 : Tm) (rc : Tm → Option Int) (s1 : Int × Int) : Option (LO (Int × Int) Int) :=
 cond (decide (s1.2 < (a0.kids.length : Int)))
   (Option.bind (J1 a0.kids s1.2) fun (x3 : Tm) =>
 Option.bind (rc x3) fun (x4 : Int) =>
 some (.next ((QW (s1.1 + x4)), (QW (s1.2 + 1)))))
   (some (.done s1.1))
def Xl (rc : Tm → Option Int) (a0 : Tm) : Option Int :=
 Option.bind (Qo (Gg a0 rc) QB (1, 0)) (fun (o1 : Int) => some o1)
def Xm (rc : Tm → Option Int) (u : Tm) : Option Int := Xl rc u
def m65 (a0 : Tm) : Option Int := Yn Xm QB a0
set_option maxRecDepth 100000 in
set_option maxHeartbeats 2000000 in
theorem m65s_ok (rc : Tm → Option Int) (H : ∀ (a0 : Tm) (r : Int), rc a0 = some r → Fun Try.prog 65 [.agg (Wj a0)] (Qr [.one (Wg r)])) (a0 : Tm) (r : Int) (h0 : Xl rc a0 = some r) : Fun Try.prog 65 [.agg (Wj a0)] (Qr [.one (Wg r)]) := by
 unfold Xl at h0
 refine Jd 9 21 Try.func65 rfl en_65 rfl (W1 rfl) (fun S w => ?_)
 simp only [Jc]
 refine Q2 <| Q0 <| Q9 rfl rfl (W1 rfl) (Js rfl) <| XS rfl rfl rfl <| Q3 <| Q1 <| Q2 <| Q0 <| XS rfl rfl rfl <| Q3 <| Q1 <| Q2 <| Q2 <| Q0 ?_
 refine XS rfl rfl rfl <| Q3 <| Q1 <| Qd ?_
 refine QI 0 (fun (o1 : Int) => ⟨[(3, .v (.one (Wg o1)))], [(0, .cells 42 (Wj a0))], [], 1, 21, []⟩) (fun (o1 : Int) => (some o1) = some r) ?_ ?_
 refine Qb h0 (fun o2 hl1 h0 => ?_)
 refine QH (Gg a0 rc) (fun s1 => ⟨[(1, .v (.one (.ptr 0 0))), (3, .v (.one (Wg s1.1))), (4, .v (.one (Wg s1.2)))], [(0, .cells 42 (Wj a0))], [], 1, 21, []⟩) (1, 0) o2 (Qh (XK rfl (XK rfl (XK rfl XJ))) (W8 rfl W7) W3 rfl (Nat.zero_le _) rfl rfl rfl (Wp rfl rfl Wm) rfl rfl) hl1 (fun s1 n1 oo1 h1 ho1 => ?_)
 unfold Gg at h1
 refine Q2 <| Q2 <| Q0 <| XR rfl rfl rfl <| XP rfl rfl rfl (Q8 G5 rfl) <| XP rfl rfl rfl (Q7 YG rfl rfl rfl) <| XP rfl rfl rfl (Qy (α := Tm) Ym rfl (.d _)) <| XP rfl rfl rfl (Q4 rfl rfl rfl) <| Q3 <| Q1 ?_
 refine Qg (b := (decide (s1.2 < (a0.kids.length : Int)))) rfl (fun c3 => ?_) (fun c3 => ?_)
 replace h1 := Qu c3 h1
 refine Qj <| Q1 <| Q2 <| Qd <| Q0 <| XR rfl rfl rfl <| XP rfl rfl rfl (Q8 G5 rfl) <| XP rfl rfl rfl (Q7 YG rfl rfl rfl) <| XR rfl rfl rfl ?_
 refine Qb h1 (fun x4 hx4 h1 => ?_)
 refine XP rfl rfl rfl (Qq (α := Tm) Ym rfl (.d _) rfl hx4) <| XP rfl rfl rfl (J4 (x4 : Tm) JH rfl) ?_
 refine Qb h1 (fun x5 hx5 h1 => ?_)
 refine Q9 rfl rfl (W1 rfl) (Qt (H x4 x5 hx5) rfl (.cons (.agg (.cons (.d _) (.cons (.d _) (.cons (.d _) (.cons (.d _) (.cons (.d _) .nil)))))) .nil)) <| XP rfl rfl rfl (Q4 rfl rfl rfl) <| XS rfl rfl rfl <| Q3 <| Qk <| Q1 <| Q0 <| XR rfl rfl rfl <| XP rfl rfl rfl (Q4 rfl rfl rfl) <| XS rfl rfl rfl <| Q3 ?_
 have e := XN h1; subst e
 refine QD ((QW (s1.1 + x5)), (QW (s1.2 + 1))) (Qh (XK rfl (XK rfl (XK rfl XJ))) (W8 rfl W7) W3 rfl (Nat.zero_le _) rfl rfl rfl (Wp rfl rfl Wm) rfl rfl) ho1
 replace h1 := Qv c3 h1
 refine QN <| Qf <| Qf ?_
 have e := XN h1; subst e
 have e_ : _ = _ := ho1
 subst e_
 exact QF s1.1 (Qh (XK rfl XJ) (W8 rfl W7) W3 rfl (Nat.zero_le _) rfl rfl rfl (Wp rfl rfl Wm) rfl rfl) h0
 intro o1 h0
 refine Qx <| Q1 <| Q2 <| Q0 <| XR rfl rfl rfl <| XS rfl rfl rfl <| Q3 <| Q1 <| Qw ?_
 have e := XN h0; subst e
 exact QX (fun _ _ h => h) rfl (Qp rfl .nil) (.cons (.one (.d _)) .nil)
theorem m65_all (n : Nat) (u : Tm) (r : Int) (h0 : Yn Xm n u = some r) : Fun Try.prog 65 [.agg (Wj u)] (Qr [.one (Wg r)]) :=
 Z0 (C := fun u r => Fun Try.prog 65 [.agg (Wj u)] (Qr [.one (Wg r)])) (fun rc H u r h => m65s_ok rc (fun a0 r h => H a0 r h) u r h) n u r h0
theorem m65_ok (a0 : Tm) (r : Int) (h0 : m65 a0 = some r) : Fun Try.prog 65 [.agg (Wj a0)] (Qr [.one (Wg r)]) := m65_all QB a0 r h0
def Gf (a0 : Tm) (rc : Tm → Option Int) (s1 : Int × Int) : Option (LO (Int × Int) Int) :=
 cond (decide (s1.2 < (a0.kids.length : Int)))
   (Option.bind (J1 a0.kids s1.2) fun (x3 : Tm) =>
 Option.bind (rc x3) fun (x4 : Int) =>
 some (.next ((max s1.1 x4), (QW (s1.2 + 1)))))
   (some (.done s1.1))
def Xj (rc : Tm → Option Int) (a0 : Tm) : Option Int :=
 Option.bind (Qo (Gf a0 rc) QB (0, 0)) (fun (o1 : Int) => some (QW (o1 + 1)))
def Xk (rc : Tm → Option Int) (u : Tm) : Option Int := Xj rc u
def m66 (a0 : Tm) : Option Int := Yn Xk QB a0
set_option maxRecDepth 100000 in
set_option maxHeartbeats 2000000 in
theorem m66s_ok (rc : Tm → Option Int) (H : ∀ (a0 : Tm) (r : Int), rc a0 = some r → Fun Try.prog 66 [.agg (Wj a0)] (Qr [.one (Wg r)])) (a0 : Tm) (r : Int) (h0 : Xj rc a0 = some r) : Fun Try.prog 66 [.agg (Wj a0)] (Qr [.one (Wg r)]) := by
 unfold Xj at h0
 refine Jd 9 22 Try.func66 rfl en_66 rfl (W1 rfl) (fun S w => ?_)
 simp only [Jc]
 refine Q2 <| Q0 <| Q9 rfl rfl (W1 rfl) (Js rfl) <| XS rfl rfl rfl <| Q3 <| Q1 <| Q2 <| Q0 <| XS rfl rfl rfl <| Q3 <| Q1 <| Q2 <| Q2 <| Q0 ?_
 refine XS rfl rfl rfl <| Q3 <| Q1 <| Qd ?_
 refine QI 0 (fun (o1 : Int) => ⟨[(3, .v (.one (Wg o1)))], [(0, .cells 42 (Wj a0))], [], 1, 22, []⟩) (fun (o1 : Int) => (some (QW (o1 + 1))) = some r) ?_ ?_
 refine Qb h0 (fun o2 hl1 h0 => ?_)
 refine QH (Gf a0 rc) (fun s1 => ⟨[(1, .v (.one (.ptr 0 0))), (3, .v (.one (Wg s1.1))), (4, .v (.one (Wg s1.2)))], [(0, .cells 42 (Wj a0))], [], 1, 22, []⟩) (0, 0) o2 (Qh (XK rfl (XK rfl (XK rfl XJ))) (W8 rfl W7) W3 rfl (Nat.zero_le _) rfl rfl rfl (Wp rfl rfl Wm) rfl rfl) hl1 (fun s1 n1 oo1 h1 ho1 => ?_)
 unfold Gf at h1
 refine Q2 <| Q2 <| Q0 <| XR rfl rfl rfl <| XP rfl rfl rfl (Q8 G5 rfl) <| XP rfl rfl rfl (Q7 YG rfl rfl rfl) <| XP rfl rfl rfl (Qy (α := Tm) Ym rfl (.d _)) <| XP rfl rfl rfl (Q4 rfl rfl rfl) <| Q3 <| Q1 ?_
 refine Qg (b := (decide (s1.2 < (a0.kids.length : Int)))) rfl (fun c3 => ?_) (fun c3 => ?_)
 replace h1 := Qu c3 h1
 refine Qj <| Q1 <| Q2 <| Qd <| Q0 <| XR rfl rfl rfl <| XP rfl rfl rfl (Q8 G5 rfl) <| XP rfl rfl rfl (Q7 YG rfl rfl rfl) <| XR rfl rfl rfl ?_
 refine Qb h1 (fun x4 hx4 h1 => ?_)
 refine XP rfl rfl rfl (Qq (α := Tm) Ym rfl (.d _) rfl hx4) <| XP rfl rfl rfl (J4 (x4 : Tm) JH rfl) ?_
 refine Qb h1 (fun x5 hx5 h1 => ?_)
 refine Q9 rfl rfl (W1 rfl) (Qt (H x4 x5 hx5) rfl (.cons (.agg (.cons (.d _) (.cons (.d _) (.cons (.d _) (.cons (.d _) (.cons (.d _) .nil)))))) .nil)) <| XP rfl rfl rfl (RO.max2 rfl rfl) <| XS rfl rfl rfl <| Q3 <| Qk <| Q1 <| Q0 <| XR rfl rfl rfl <| XP rfl rfl rfl (Q4 rfl rfl rfl) <| XS rfl rfl rfl <| Q3 ?_
 have e := XN h1; subst e
 refine QD ((max s1.1 x5), (QW (s1.2 + 1))) (Qh (XK rfl (XK rfl (XK rfl XJ))) (W8 rfl W7) W3 rfl (Nat.zero_le _) rfl rfl rfl (Wp rfl rfl Wm) rfl rfl) ho1
 replace h1 := Qv c3 h1
 refine QN <| Qf <| Qf ?_
 have e := XN h1; subst e
 have e_ : _ = _ := ho1
 subst e_
 exact QF s1.1 (Qh (XK rfl XJ) (W8 rfl W7) W3 rfl (Nat.zero_le _) rfl rfl rfl (Wp rfl rfl Wm) rfl rfl) h0
 intro o1 h0
 refine Qx <| Q1 <| Q2 <| Q0 <| XR rfl rfl rfl <| XP rfl rfl rfl (Q4 rfl rfl rfl) <| XS rfl rfl rfl <| Q3 <| Q1 <| Qw ?_
 have e := XN h0; subst e
 exact QX (fun _ _ h => h) rfl (Qp rfl .nil) (.cons (.one (.d _)) .nil)
theorem m66_all (n : Nat) (u : Tm) (r : Int) (h0 : Yn Xk n u = some r) : Fun Try.prog 66 [.agg (Wj u)] (Qr [.one (Wg r)]) :=
 Z0 (C := fun u r => Fun Try.prog 66 [.agg (Wj u)] (Qr [.one (Wg r)])) (fun rc H u r h => m66s_ok rc (fun a0 r h => H a0 r h) u r h) n u r h0
theorem m66_ok (a0 : Tm) (r : Int) (h0 : m66 a0 = some r) : Fun Try.prog 66 [.agg (Wj a0)] (Qr [.one (Wg r)]) := m66_all QB a0 r h0
def Xp (a0 : Tm) : Option Bool :=
 Option.bind (Option.bind (m65 a0) fun (x2 : Int) =>
 cond (decide (x2 ≤ 400))
   (Option.bind (m66 a0) fun (x4 : Int) =>
 some (decide (x4 ≤ 150)))
   (some false)) (fun (v1 : Bool) => some v1)
set_option maxRecDepth 100000 in
set_option maxHeartbeats 2000000 in
theorem KK (a0 : Tm) (r : Bool) (h0 : Xp a0 = some r) : Fun Try.prog 50 [.agg (Wj a0)] (Qr [.one (Wh r)]) := by
 unfold Xp at h0
 refine Jd 9 11 Try.func50 rfl en_50 rfl (W1 rfl) (fun S w => ?_)
 simp only [Jc]
 refine Q2 <| Q0 <| Q9 rfl rfl (W1 rfl) (Js rfl) <| XS rfl rfl rfl <| Q3 <| Q1 <| Q2 ?_
 refine Jy (fun (v1 : Bool) => ⟨[(2, .v (.one (Wh v1)))], [(0, .cells 42 (Wj a0))], [], 1, 11, []⟩) (fun (v1 : Bool) => (some v1) = some r) ?_ ?_
 refine Qb h0 (fun w1_ h1 h0 => ?_)
 refine Q0 <| XP rfl rfl rfl (Jj (a0 : Tm) JH rfl rfl) ?_
 refine Qb h1 (fun x2 hx2 h1 => ?_)
 refine Q9 rfl rfl (W1 rfl) (Qt (m65_ok a0 x2 hx2) rfl (.cons (.agg (.cons (.d _) (.cons (.d _) (.cons (.d _) (.cons (.d _) (.cons (.d _) .nil)))))) .nil)) <| XP rfl rfl rfl (Q4 rfl rfl rfl) <| XR rfl rfl rfl ?_
 refine Ja (d := 6) (c := (decide (x2 ≤ 400))) rfl (fun c3 => ?_) (fun c3 => ?_)
 replace h1 := Qu c3 h1
 refine XP rfl rfl rfl (Jj (a0 : Tm) JH rfl rfl) ?_
 refine Qb h1 (fun x4 hx4 h1 => ?_)
 refine Q9 rfl rfl (W1 rfl) (Qt (m66_ok a0 x4 hx4) rfl (.cons (.agg (.cons (.d _) (.cons (.d _) (.cons (.d _) (.cons (.d _) (.cons (.d _) .nil)))))) .nil)) <| XP rfl rfl rfl (Q4 rfl rfl rfl) <| XP rfl rfl rfl (QC rfl rfl) <| XS rfl rfl rfl <| Q3 ?_
 have e := XN h1; subst e
 exact QG (decide (x4 ≤ 150)) (Qh (XK rfl XJ) (W8 rfl W7) W3 rfl (Nat.zero_le _) rfl rfl rfl (Wp rfl rfl Wm) rfl rfl) h0
 replace h1 := Qv c3 h1
 refine Qa rfl rfl <| Qa rfl rfl <| Qa rfl rfl <| XP rfl rfl rfl (QL rfl rfl) <| XS rfl rfl rfl <| Q3 ?_
 have e := XN h1; subst e
 exact QG false (Qh (XK rfl XJ) (W8 rfl W7) W3 rfl (Nat.zero_le _) rfl rfl rfl (Wp rfl rfl Wm) rfl rfl) h0
 intro v1 h0
 refine Q1 <| Qw ?_
 have e := XN h0; subst e
 exact QX (fun _ _ h => h) rfl (Qp rfl .nil) (.cons (.one (.d _)) .nil)
def KJ (a0 : Tr) (rc : Tr × Int → Option Bool) (a1 : Int) (s1 : Int) : Option (LO Int (Unit ⊕ Bool)) :=
 cond (decide (s1 < (a0.branches.length : Int)))
   (Option.bind (Option.bind (J1 a0.branches s1) fun (x6 : Wz) =>
 Option.bind (rc (x6.tree, (QW (a1 + 1)))) fun (x7 : Bool) =>
 cond (!x7)
   (some true)
   (Option.bind (J1 a0.branches s1) fun (x9 : Wz) =>
 some (decide (200 < (x9.ctor.length : Int))))) (fun (v5 : Bool) => cond v5
   (some (.done (.inr false)))
   (some (.next (QW (s1 + 1))))))
   (some (.done (.inl ())))
def Xn (rc : Tr × Int → Option Bool) (a0 : Tr) (a1 : Int) : Option Bool :=
 Option.bind (cond (decide (40 < a1))
   (some true)
   (cond (decide (40 < (a0.branches.length : Int)))
   (some true)
   (Option.bind (Xp a0.body) fun (x4 : Bool) =>
 some (!x4)))) (fun (v1 : Bool) => cond v1
   (some false)
   (Option.bind (Qo (KJ a0 rc a1) QB 0) (Sum.elim (fun (o3 : Unit) => some true) (fun o => some o))))
def Xo (rc : Tr × Int → Option Bool) (u : Tr × Int) : Option Bool := Xn rc u.1 u.2
def m51 (a0 : Tr) (a1 : Int) : Option Bool := Yn Xo QB (a0, a1)
set_option maxRecDepth 100000 in
set_option maxHeartbeats 2000000 in
theorem m51s_ok (rc : Tr × Int → Option Bool) (H : ∀ (a0 : Tr) (a1 : Int) (r : Bool), rc (a0, a1) = some r → Fun Try.prog 51 [.agg (Wj a0), .one (Wg a1)] (Qr [.one (Wh r)])) (a0 : Tr) (a1 : Int) (r : Bool) (h0 : Xn rc a0 a1 = some r) : Fun Try.prog 51 [.agg (Wj a0), .one (Wg a1)] (Qr [.one (Wh r)]) := by
 unfold Xn at h0
 refine Jd 9 47 Try.func51 rfl en_51 rfl (W1 rfl) (fun S w => ?_)
 simp only [Jc]
 refine Q2 <| Q0 <| Q9 rfl rfl (W1 rfl) (Js rfl) <| XS rfl rfl rfl <| Q3 <| Q1 <| Q2 <| Q2 ?_
 refine Jy (fun (v1 : Bool) => ⟨[(1, .v (.one (Wg a1))), (2, .v (.one (.ptr 0 0))), (19, .v (.one (Wh v1)))], [(0, .cells 87 (Wj a0))], [], 1, 47, []⟩) (fun (v1 : Bool) => (cond v1
     (some false)
     (Option.bind (Qo (KJ a0 rc a1) QB 0) (Sum.elim (fun (o3 : Unit) => some true) (fun o => some o)))) = some r) ?_ ?_
 refine Qb h0 (fun w1_ h1 h0 => ?_)
 refine Q0 <| XR rfl rfl rfl <| XP rfl rfl rfl (Q4 rfl rfl rfl) <| XR rfl rfl rfl ?_
 refine Ja (d := 8) (c := (decide (40 < a1))) rfl (fun c2 => ?_) (fun c2 => ?_)
 replace h1 := Qu c2 h1
 refine Qa rfl rfl <| Qa rfl rfl <| Qa rfl rfl <| Qa rfl rfl <| XP rfl rfl rfl (QC rfl rfl) <| XR rfl rfl rfl <| Qa rfl rfl <| Qa rfl rfl <| Qa rfl rfl <| Qa rfl rfl <| XP rfl rfl rfl (QC rfl rfl) <| Q3 ?_
 have e := XN h1; subst e
 exact QG true (Qh (XK rfl (XK rfl (XK rfl XJ))) (W8 rfl W7) W3 rfl (Nat.zero_le _) rfl rfl rfl (Wp rfl rfl Wm) rfl rfl) h0
 replace h1 := Qv c2 h1
 refine XP rfl rfl rfl (Q8 G3 rfl) <| XP rfl rfl rfl (Q7 X5 rfl rfl rfl) <| XP rfl rfl rfl (Qy (α := Wz) GO rfl (.d _)) <| XP rfl rfl rfl (Q4 rfl rfl rfl) <| XP rfl rfl rfl (QL rfl rfl) <| XR rfl rfl rfl ?_
 refine Ja (d := 14) (c := (decide (40 < (a0.branches.length : Int)))) rfl (fun c3 => ?_) (fun c3 => ?_)
 replace h1 := Qu c3 h1
 refine Qa rfl rfl <| Qa rfl rfl <| Qa rfl rfl <| Qa rfl rfl <| XP rfl rfl rfl (QC rfl rfl) <| Q3 ?_
 have e := XN h1; subst e
 exact QG true (Qh (XK rfl (XK rfl (XK rfl XJ))) (W8 rfl W7) W3 rfl (Nat.zero_le _) rfl rfl rfl (Wp rfl rfl Wm) rfl rfl) h0
 replace h1 := Qv c3 h1
 refine XP rfl rfl rfl (Q8 fo_87_1 rfl) <| XP rfl rfl rfl (Qz JH rfl rfl rfl rfl) ?_
 refine Qb h1 (fun x4 hx4 h1 => ?_)
 refine Q9 rfl rfl (W1 rfl) (Qt (KK a0.body x4 hx4) rfl (.cons (.agg (.cons (.d _) (.cons (.d _) (.cons (.d _) (.cons (.d _) (.cons (.d _) .nil)))))) .nil)) <| XP rfl rfl rfl (Jp rfl) <| XP rfl rfl rfl (QL rfl rfl) <| Q3 ?_
 have e := XN h1; subst e
 exact QG (!x4) (Qh (XK rfl (XK rfl (XK rfl XJ))) (W8 rfl W7) W3 rfl (Nat.zero_le _) rfl rfl rfl (Wp rfl rfl Wm) rfl rfl) h0
 intro v1 h0
 refine Q1 ?_
 refine Qg (b := v1) rfl (fun c5 => ?_) (fun c5 => ?_)
 replace h0 := Qu c5 h0
 refine Q2 <| Q0 <| XS rfl rfl rfl <| Q3 <| Q1 <| Qw ?_
 have e := XN h0; subst e
 exact QX (fun _ _ h => h) rfl (Qp rfl .nil) (.cons (.one (.d _)) .nil)
 replace h0 := Qv c5 h0
 refine Qj <| Q1 <| Q2 <| Q2 <| Q0 <| XS rfl rfl rfl <| Q3 <| Q1 <| Qd ?_
 refine QI 0 (fun (o6 : Unit) => ⟨[], [(0, .cells 87 (Wj a0))], [], 1, 47, []⟩) (fun (o6 : Unit) => (some true) = some r) ?_ ?_
 refine Qb h0 (fun o7 hl1 h0 => ?_)
 refine QH (KJ a0 rc a1) (fun s1 => ⟨[(1, .v (.one (Wg a1))), (2, .v (.one (.ptr 0 0))), (5, .v (.one (Wg s1)))], [(0, .cells 87 (Wj a0))], [], 1, 47, []⟩) 0 o7 (Qh (XK rfl (XK rfl (XK rfl XJ))) (W8 rfl W7) W3 rfl (Nat.zero_le _) rfl rfl rfl (Wp rfl rfl Wm) rfl rfl) hl1 (fun s1 n1 oo1 h1 ho1 => ?_)
 unfold KJ at h1
 refine Q2 <| Q2 <| Q0 <| XR rfl rfl rfl <| XP rfl rfl rfl (Q8 G3 rfl) <| XP rfl rfl rfl (Q7 X5 rfl rfl rfl) <| XP rfl rfl rfl (Qy (α := Wz) GO rfl (.d _)) <| XP rfl rfl rfl (Q4 rfl rfl rfl) <| Q3 <| Q1 ?_
 refine Qg (b := (decide (s1 < (a0.branches.length : Int)))) rfl (fun c8 => ?_) (fun c8 => ?_)
 replace h1 := Qu c8 h1
 refine Qj <| Q1 <| Q2 <| Qd <| Q2 ?_
 refine Jy (fun (v9 : Bool) => ⟨[(1, .v (.one (Wg a1))), (2, .v (.one (.ptr 0 0))), (5, .v (.one (Wg s1))), (46, .v (.one (Wh v9)))], [(0, .cells 87 (Wj a0))], [], 1, 47, []⟩) (fun (v9 : Bool) => (cond v9
     (some (.done (.inr false)))
     (some (.next (QW (s1 + 1))))) = some oo1) ?_ ?_
 refine Qb h1 (fun w2_ h2 h1 => ?_)
 refine Q0 <| XP rfl rfl rfl (Q8 G3 rfl) <| XP rfl rfl rfl (Q7 X5 rfl rfl rfl) <| XR rfl rfl rfl ?_
 refine Qb h2 (fun x10 hx10 h2 => ?_)
 refine XP rfl rfl rfl (Qq (α := Wz) GO rfl (.d _) rfl hx10) <| XP rfl rfl rfl (JN fo_115_2 rfl) <| XP rfl rfl rfl (Jm ag_87 rfl rfl rfl) <| XR rfl rfl rfl <| XP rfl rfl rfl (Q4 rfl rfl rfl) ?_
 refine Qb h2 (fun x11 hx11 h2 => ?_)
 refine Q9 rfl rfl (W1 rfl) (Qt (H x10.tree (QW (a1 + 1)) x11 hx11) rfl (.cons (.agg (.cons (.d _) (.cons (.d _) (.cons (.d _) (.cons (.d _) (.cons (.d _) (.cons (.d _) (.cons (.d _) (.cons (.d _) .nil))))))))) (.cons (.one (.d _)) .nil))) <| XP rfl rfl rfl (Jp rfl) <| XR rfl rfl rfl ?_
 refine Ja (d := 37) (c := (!x11)) rfl (fun c12 => ?_) (fun c12 => ?_)
 replace h2 := Qu c12 h2
 refine Qa rfl rfl <| Qa rfl rfl <| Qa rfl rfl <| Qa rfl rfl <| Qa rfl rfl <| Qa rfl rfl <| Qa rfl rfl <| Qa rfl rfl <| XP rfl rfl rfl (QC rfl rfl) <| Q3 ?_
 have e := XN h2; subst e
 exact QG true (Qh (XK rfl (XK rfl (XK rfl (XK rfl XJ)))) (W8 rfl W7) W3 rfl (Nat.zero_le _) rfl rfl rfl (Wp rfl rfl Wm) rfl rfl) h1
 replace h2 := Qv c12 h2
 refine XP rfl rfl rfl (Q8 G3 rfl) <| XP rfl rfl rfl (Q7 X5 rfl rfl rfl) <| XR rfl rfl rfl ?_
 refine Qb h2 (fun x13 hx13 h2 => ?_)
 refine XP rfl rfl rfl (Qq (α := Wz) GO rfl (.d _) rfl hx13) <| XP rfl rfl rfl (JN fo_115_0 rfl) <| XP rfl rfl rfl (QK Y6 rfl rfl) <| XP rfl rfl rfl (RO.lenS st_9 rfl) <| XP rfl rfl rfl (Q4 rfl rfl rfl) <| XP rfl rfl rfl (QL rfl rfl) <| Q3 ?_
 have e := XN h2; subst e
 exact QG (decide (200 < (x13.ctor.length : Int))) (Qh (XK rfl (XK rfl (XK rfl (XK rfl XJ)))) (W8 rfl W7) W3 rfl (Nat.zero_le _) rfl rfl rfl (Wp rfl rfl Wm) rfl rfl) h1
 intro v9 h1
 refine Q1 ?_
 refine Qg (b := v9) rfl (fun c14 => ?_) (fun c14 => ?_)
 replace h1 := Qu c14 h1
 refine Q2 <| Q0 <| XS rfl rfl rfl <| Q3 <| Q1 <| Qw ?_
 have e := XN h1; subst e
 have e_ : _ = _ := ho1
 subst e_
 try dsimp only [Sum.elim_inl, Sum.elim_inr] at h0
 have e := XN h0; subst e
 exact QX (fun _ _ h => h) rfl (Qp rfl .nil) (.cons (.one (.d _)) .nil)
 replace h1 := Qv c14 h1
 refine Qj <| Qk <| Q1 <| Q0 <| XR rfl rfl rfl <| XP rfl rfl rfl (Q4 rfl rfl rfl) <| XS rfl rfl rfl <| Q3 ?_
 have e := XN h1; subst e
 refine QD (QW (s1 + 1)) (Qh (XK rfl (XK rfl (XK rfl XJ))) (W8 rfl W7) W3 rfl (Nat.zero_le _) rfl rfl rfl (Wp rfl rfl Wm) rfl rfl) ho1
 replace h1 := Qv c8 h1
 refine QN <| Qf <| Qf ?_
 have e := XN h1; subst e
 have e_ : _ = _ := ho1
 subst e_
 exact QF () (Qh XJ (W8 rfl W7) W3 rfl (Nat.zero_le _) rfl rfl rfl (Wp rfl rfl Wm) rfl rfl) h0
 intro o6 h0
 refine Qx <| Q1 <| Q2 <| Q0 <| XS rfl rfl rfl <| Q3 <| Q1 <| Qw ?_
 have e := XN h0; subst e
 exact QX (fun _ _ h => h) rfl (Qp rfl .nil) (.cons (.one (.d _)) .nil)
theorem m51_all (n : Nat) (u : Tr × Int) (r : Bool) (h0 : Yn Xo n u = some r) : Fun Try.prog 51 [.agg (Wj u.1), .one (Wg u.2)] (Qr [.one (Wh r)]) :=
 Z0 (C := fun u r => Fun Try.prog 51 [.agg (Wj u.1), .one (Wg u.2)] (Qr [.one (Wh r)])) (fun rc H u r h => m51s_ok rc (fun a0 a1 r h => H (a0, a1) r h) u.1 u.2 r h) n u r h0
theorem m51_ok (a0 : Tr) (a1 : Int) (r : Bool) (h0 : m51 a0 a1 = some r) : Fun Try.prog 51 [.agg (Wj a0), .one (Wg a1)] (Qr [.one (Wh r)]) := m51_all QB (a0, a1) r h0
def Kk (a0 : Dcl) (s1 : Int) : Option (LO Int (Unit ⊕ Bool)) :=
 cond (decide (s1 < (a0.ctors.length : Int)))
   (Option.bind (Option.bind (J1 a0.ctors s1) fun (x6 : Ctr) =>
 cond (decide (200 < (x6.name.length : Int)))
   (some true)
   (Option.bind (J1 a0.ctors s1) fun (x8 : Ctr) =>
 Option.bind (Xp x8.ty) fun (x9 : Bool) =>
 some (!x9))) (fun (v5 : Bool) => cond v5
   (some (.done (.inr false)))
   (some (.next (QW (s1 + 1))))))
   (some (.done (.inl ())))
def K6 (a0 : Dcl) (s1 : Int) : Option (LO Int (Unit ⊕ Bool)) :=
 cond (decide (s1 < (a0.rcr.rules.length : Int)))
   (Option.bind (J1 a0.rcr.rules s1) fun (x6 : Tm) =>
 Option.bind (Xp x6) fun (x7 : Bool) =>
 cond (!x7)
   (some (.done (.inr false)))
   (some (.next (QW (s1 + 1)))))
   (some (.done (.inl ())))
def ZD (a0 : Dcl) (s1 : Int) : Option (LO Int (Unit ⊕ Bool)) :=
 cond (decide (s1 < (a0.funs.length : Int)))
   (Option.bind (Option.bind (J1 a0.funs s1) fun (x8 : Fn) =>
 cond (decide (200 < (x8.name.length : Int)))
   (some true)
   (Option.bind (J1 a0.funs s1) fun (x10 : Fn) =>
 Option.bind (Xp x10.ty) fun (x11 : Bool) =>
 cond (!x11)
   (some true)
   (Option.bind (J1 a0.funs s1) fun (x13 : Fn) =>
 Option.bind (m51 x13.tree 0) fun (x14 : Bool) =>
 some (!x14)))) (fun (v7 : Bool) => cond v7
   (some (.done (.inr false)))
   (some (.next (QW (s1 + 1))))))
   (some (.done (.inl ())))
def XD (a0 : Dcl) : Option Bool :=
 Option.bind (cond (decide (200 < (a0.name.length : Int)))
   (some true)
   (Option.bind (Xp a0.ty) fun (x3 : Bool) =>
 cond (!x3)
   (some true)
   (Option.bind (Xp a0.value) fun (x5 : Bool) =>
 cond (!x5)
   (some true)
   (cond (decide (40 < (a0.ctors.length : Int)))
   (some true)
   (cond (decide (12 < (a0.funs.length : Int)))
   (some true)
   (Option.bind (Xp a0.rcr.ty) fun (x9 : Bool) =>
 cond (!x9)
   (some true)
   (some (decide (40 < (a0.rcr.rules.length : Int)))))))))) (fun (v1 : Bool) => cond v1
   (some false)
   (Option.bind (Qo (Kk a0) QB 0) (Sum.elim (fun (o3 : Unit) => Option.bind (Qo (K6 a0) QB 0) (Sum.elim (fun (o4 : Unit) => Option.bind (Qo (ZD a0) QB 0) (Sum.elim (fun (o5 : Unit) => some true) (fun o => some o))) (fun o => some o))) (fun o => some o))))
set_option maxRecDepth 100000 in
set_option maxHeartbeats 2000000 in
theorem m30_ok (a0 : Dcl) (r : Bool) (h0 : XD a0 = some r) : Fun Try.prog 30 [.agg (Wj a0)] (Qr [.one (Wh r)]) := by
 unfold XD at h0
 refine Jd 9 124 Try.func30 rfl en_30 rfl (W1 rfl) (fun S w => ?_)
 simp only [Jc]
 refine Q2 <| Q0 <| Q9 rfl rfl (W1 rfl) (Js rfl) <| XS rfl rfl rfl <| Q3 <| Q1 <| Q2 <| Q2 ?_
 refine Jy (fun (v1 : Bool) => ⟨[(1, .v (.one (.ptr 0 0))), (47, .v (.one (Wh v1)))], [(0, .cells 48 (Wj a0))], [], 1, 124, []⟩) (fun (v1 : Bool) => (cond v1
     (some false)
     (Option.bind (Qo (Kk a0) QB 0) (Sum.elim (fun (o3 : Unit) => Option.bind (Qo (K6 a0) QB 0) (Sum.elim (fun (o4 : Unit) => Option.bind (Qo (ZD a0) QB 0) (Sum.elim (fun (o5 : Unit) => some true) (fun o => some o))) (fun o => some o))) (fun o => some o)))) = some r) ?_ ?_
 refine Qb h0 (fun w1_ h1 h0 => ?_)
 refine Q0 <| XP rfl rfl rfl (Q8 Za rfl) <| XP rfl rfl rfl (Q7 Y6 rfl rfl rfl) <| XP rfl rfl rfl (RO.lenS st_9 rfl) <| XP rfl rfl rfl (Q4 rfl rfl rfl) <| XR rfl rfl rfl ?_
 refine Ja (d := 10) (c := (decide (200 < (a0.name.length : Int)))) rfl (fun c2 => ?_) (fun c2 => ?_)
 replace h1 := Qu c2 h1
 refine Qa rfl rfl <| Qa rfl rfl <| Qa rfl rfl <| Qa rfl rfl <| XP rfl rfl rfl (QC rfl rfl) <| XR rfl rfl rfl <| Qa rfl rfl <| Qa rfl rfl <| Qa rfl rfl <| Qa rfl rfl <| XP rfl rfl rfl (QC rfl rfl) <| XR rfl rfl rfl <| Qa rfl rfl <| Qa rfl rfl ?_
 refine Qa rfl rfl <| Qa rfl rfl <| XP rfl rfl rfl (QC rfl rfl) <| XR rfl rfl rfl <| Qa rfl rfl <| Qa rfl rfl <| Qa rfl rfl <| Qa rfl rfl <| XP rfl rfl rfl (QC rfl rfl) <| XR rfl rfl rfl <| Qa rfl rfl <| Qa rfl rfl <| Qa rfl rfl <| Qa rfl rfl ?_
 refine Qa rfl rfl <| XP rfl rfl rfl (QC rfl rfl) <| XR rfl rfl rfl <| Qa rfl rfl <| Qa rfl rfl <| Qa rfl rfl <| Qa rfl rfl <| Qa rfl rfl <| XP rfl rfl rfl (QC rfl rfl) <| Q3 ?_
 have e := XN h1; subst e
 exact QG true (Qh (XK rfl (XK rfl XJ)) (W8 rfl W7) W3 rfl (Nat.zero_le _) rfl rfl rfl (Wp rfl rfl Wm) rfl rfl) h0
 replace h1 := Qv c2 h1
 refine XP rfl rfl rfl (Q8 fo_48_3 rfl) <| XP rfl rfl rfl (Qz JH rfl rfl rfl rfl) ?_
 refine Qb h1 (fun x3 hx3 h1 => ?_)
 refine Q9 rfl rfl (W1 rfl) (Qt (KK a0.ty x3 hx3) rfl (.cons (.agg (.cons (.d _) (.cons (.d _) (.cons (.d _) (.cons (.d _) (.cons (.d _) .nil)))))) .nil)) <| XP rfl rfl rfl (Jp rfl) <| XP rfl rfl rfl (QL rfl rfl) <| XR rfl rfl rfl ?_
 refine Ja (d := 16) (c := (!x3)) rfl (fun c4 => ?_) (fun c4 => ?_)
 replace h1 := Qu c4 h1
 refine Qa rfl rfl <| Qa rfl rfl <| Qa rfl rfl <| Qa rfl rfl <| XP rfl rfl rfl (QC rfl rfl) <| XR rfl rfl rfl <| Qa rfl rfl <| Qa rfl rfl <| Qa rfl rfl <| Qa rfl rfl <| XP rfl rfl rfl (QC rfl rfl) <| XR rfl rfl rfl <| Qa rfl rfl <| Qa rfl rfl ?_
 refine Qa rfl rfl <| Qa rfl rfl <| XP rfl rfl rfl (QC rfl rfl) <| XR rfl rfl rfl <| Qa rfl rfl <| Qa rfl rfl <| Qa rfl rfl <| Qa rfl rfl <| Qa rfl rfl <| XP rfl rfl rfl (QC rfl rfl) <| XR rfl rfl rfl <| Qa rfl rfl <| Qa rfl rfl <| Qa rfl rfl ?_
 refine Qa rfl rfl <| Qa rfl rfl <| XP rfl rfl rfl (QC rfl rfl) <| Q3 ?_
 have e := XN h1; subst e
 exact QG true (Qh (XK rfl (XK rfl XJ)) (W8 rfl W7) W3 rfl (Nat.zero_le _) rfl rfl rfl (Wp rfl rfl Wm) rfl rfl) h0
 replace h1 := Qv c4 h1
 refine XP rfl rfl rfl (Q8 fo_48_4 rfl) <| XP rfl rfl rfl (Qz JH rfl rfl rfl rfl) ?_
 refine Qb h1 (fun x5 hx5 h1 => ?_)
 refine Q9 rfl rfl (W1 rfl) (Qt (KK a0.value x5 hx5) rfl (.cons (.agg (.cons (.d _) (.cons (.d _) (.cons (.d _) (.cons (.d _) (.cons (.d _) .nil)))))) .nil)) <| XP rfl rfl rfl (Jp rfl) <| XP rfl rfl rfl (QL rfl rfl) <| XR rfl rfl rfl ?_
 refine Ja (d := 22) (c := (!x5)) rfl (fun c6 => ?_) (fun c6 => ?_)
 replace h1 := Qu c6 h1
 refine Qa rfl rfl <| Qa rfl rfl <| Qa rfl rfl <| Qa rfl rfl <| XP rfl rfl rfl (QC rfl rfl) <| XR rfl rfl rfl <| Qa rfl rfl <| Qa rfl rfl <| Qa rfl rfl <| Qa rfl rfl <| XP rfl rfl rfl (QC rfl rfl) <| XR rfl rfl rfl <| Qa rfl rfl <| Qa rfl rfl ?_
 refine Qa rfl rfl <| Qa rfl rfl <| Qa rfl rfl <| XP rfl rfl rfl (QC rfl rfl) <| XR rfl rfl rfl <| Qa rfl rfl <| Qa rfl rfl <| Qa rfl rfl <| Qa rfl rfl <| Qa rfl rfl <| XP rfl rfl rfl (QC rfl rfl) <| Q3 ?_
 have e := XN h1; subst e
 exact QG true (Qh (XK rfl (XK rfl XJ)) (W8 rfl W7) W3 rfl (Nat.zero_le _) rfl rfl rfl (Wp rfl rfl Wm) rfl rfl) h0
 replace h1 := Qv c6 h1
 refine XP rfl rfl rfl (Q8 ZA rfl) <| XP rfl rfl rfl (Q7 Gu rfl rfl rfl) <| XP rfl rfl rfl (Qy (α := Ctr) Kh rfl (.d _)) <| XP rfl rfl rfl (Q4 rfl rfl rfl) <| XP rfl rfl rfl (QL rfl rfl) <| XR rfl rfl rfl ?_
 refine Ja (d := 28) (c := (decide (40 < (a0.ctors.length : Int)))) rfl (fun c7 => ?_) (fun c7 => ?_)
 replace h1 := Qu c7 h1
 refine Qa rfl rfl <| Qa rfl rfl <| Qa rfl rfl <| Qa rfl rfl <| XP rfl rfl rfl (QC rfl rfl) <| XR rfl rfl rfl <| Qa rfl rfl <| Qa rfl rfl <| Qa rfl rfl <| Qa rfl rfl <| Qa rfl rfl <| XP rfl rfl rfl (QC rfl rfl) <| XR rfl rfl rfl <| Qa rfl rfl ?_
 refine Qa rfl rfl <| Qa rfl rfl <| Qa rfl rfl <| Qa rfl rfl <| XP rfl rfl rfl (QC rfl rfl) <| Q3 ?_
 have e := XN h1; subst e
 exact QG true (Qh (XK rfl (XK rfl XJ)) (W8 rfl W7) W3 rfl (Nat.zero_le _) rfl rfl rfl (Wp rfl rfl Wm) rfl rfl) h0
 replace h1 := Qv c7 h1
 refine XP rfl rfl rfl (Q8 YY rfl) <| XP rfl rfl rfl (Q7 KE rfl rfl rfl) <| XP rfl rfl rfl (Qy (α := Fn) ZK rfl (.d _)) <| XP rfl rfl rfl (Q4 rfl rfl rfl) <| XP rfl rfl rfl (QL rfl rfl) <| XR rfl rfl rfl ?_
 refine Ja (d := 34) (c := (decide (12 < (a0.funs.length : Int)))) rfl (fun c8 => ?_) (fun c8 => ?_)
 replace h1 := Qu c8 h1
 refine Qa rfl rfl <| Qa rfl rfl <| Qa rfl rfl <| Qa rfl rfl <| Qa rfl rfl <| XP rfl rfl rfl (QC rfl rfl) <| XR rfl rfl rfl <| Qa rfl rfl <| Qa rfl rfl <| Qa rfl rfl <| Qa rfl rfl <| Qa rfl rfl <| XP rfl rfl rfl (QC rfl rfl) <| Q3 ?_
 have e := XN h1; subst e
 exact QG true (Qh (XK rfl (XK rfl XJ)) (W8 rfl W7) W3 rfl (Nat.zero_le _) rfl rfl rfl (Wp rfl rfl Wm) rfl rfl) h0
 replace h1 := Qv c8 h1
 refine XP rfl rfl rfl (Q8 Kc rfl) <| XP rfl rfl rfl (Q8 fo_45_1 rfl) <| XP rfl rfl rfl (Qz JH rfl rfl rfl rfl) ?_
 refine Qb h1 (fun x9 hx9 h1 => ?_)
 refine Q9 rfl rfl (W1 rfl) (Qt (KK a0.rcr.ty x9 hx9) rfl (.cons (.agg (.cons (.d _) (.cons (.d _) (.cons (.d _) (.cons (.d _) (.cons (.d _) .nil)))))) .nil)) <| XP rfl rfl rfl (Jp rfl) <| XP rfl rfl rfl (QL rfl rfl) <| XR rfl rfl rfl ?_
 refine Ja (d := 41) (c := (!x9)) rfl (fun c10 => ?_) (fun c10 => ?_)
 replace h1 := Qu c10 h1
 refine Qa rfl rfl <| Qa rfl rfl <| Qa rfl rfl <| Qa rfl rfl <| Qa rfl rfl <| XP rfl rfl rfl (QC rfl rfl) <| Q3 ?_
 have e := XN h1; subst e
 exact QG true (Qh (XK rfl (XK rfl XJ)) (W8 rfl W7) W3 rfl (Nat.zero_le _) rfl rfl rfl (Wp rfl rfl Wm) rfl rfl) h0
 replace h1 := Qv c10 h1
 refine XP rfl rfl rfl (Q8 Kc rfl) <| XP rfl rfl rfl (Q8 G4 rfl) <| XP rfl rfl rfl (Q7 YG rfl rfl rfl) <| XP rfl rfl rfl (Qy (α := Tm) Ym rfl (.d _)) <| XP rfl rfl rfl (Q4 rfl rfl rfl) <| XP rfl rfl rfl (QL rfl rfl) <| Q3 ?_
 have e := XN h1; subst e
 exact QG (decide (40 < (a0.rcr.rules.length : Int))) (Qh (XK rfl (XK rfl XJ)) (W8 rfl W7) W3 rfl (Nat.zero_le _) rfl rfl rfl (Wp rfl rfl Wm) rfl rfl) h0
 intro v1 h0
 refine Q1 ?_
 refine Qg (b := v1) rfl (fun c11 => ?_) (fun c11 => ?_)
 replace h0 := Qu c11 h0
 refine Q2 <| Q0 <| XS rfl rfl rfl <| Q3 <| Q1 <| Qw ?_
 have e := XN h0; subst e
 exact QX (fun _ _ h => h) rfl (Qp rfl .nil) (.cons (.one (.d _)) .nil)
 replace h0 := Qv c11 h0
 refine Qj <| Q1 <| Q2 <| Q2 <| Q0 <| XS rfl rfl rfl <| Q3 <| Q1 <| Qd ?_
 refine QI 0 (fun (o12 : Unit) => ⟨[(1, .v (.one (.ptr 0 0)))], [(0, .cells 48 (Wj a0))], [], 1, 124, []⟩) (fun (o12 : Unit) => (Option.bind (Qo (K6 a0) QB 0) (Sum.elim (fun (o13 : Unit) => Option.bind (Qo (ZD a0) QB 0) (Sum.elim (fun (o14 : Unit) => some true) (fun o => some o))) (fun o => some o))) = some r) ?_ ?_
 refine Qb h0 (fun o13 hl1 h0 => ?_)
 refine QH (Kk a0) (fun s1 => ⟨[(1, .v (.one (.ptr 0 0))), (3, .v (.one (Wg s1)))], [(0, .cells 48 (Wj a0))], [], 1, 124, []⟩) 0 o13 (Qh (XK rfl (XK rfl XJ)) (W8 rfl W7) W3 rfl (Nat.zero_le _) rfl rfl rfl (Wp rfl rfl Wm) rfl rfl) hl1 (fun s1 n1 oo1 h1 ho1 => ?_)
 unfold Kk at h1
 refine Q2 <| Q2 <| Q0 <| XR rfl rfl rfl <| XP rfl rfl rfl (Q8 ZA rfl) <| XP rfl rfl rfl (Q7 Gu rfl rfl rfl) <| XP rfl rfl rfl (Qy (α := Ctr) Kh rfl (.d _)) <| XP rfl rfl rfl (Q4 rfl rfl rfl) <| Q3 <| Q1 ?_
 refine Qg (b := (decide (s1 < (a0.ctors.length : Int)))) rfl (fun c14 => ?_) (fun c14 => ?_)
 replace h1 := Qu c14 h1
 refine Qj <| Q1 <| Q2 <| Qd <| Q2 ?_
 refine Jy (fun (v15 : Bool) => ⟨[(1, .v (.one (.ptr 0 0))), (3, .v (.one (Wg s1))), (72, .v (.one (Wh v15)))], [(0, .cells 48 (Wj a0))], [], 1, 124, []⟩) (fun (v15 : Bool) => (cond v15
     (some (.done (.inr false)))
     (some (.next (QW (s1 + 1))))) = some oo1) ?_ ?_
 refine Qb h1 (fun w2_ h2 h1 => ?_)
 refine Q0 <| XP rfl rfl rfl (Q8 ZA rfl) <| XP rfl rfl rfl (Q7 Gu rfl rfl rfl) <| XR rfl rfl rfl ?_
 refine Qb h2 (fun x16 hx16 h2 => ?_)
 refine XP rfl rfl rfl (Qq (α := Ctr) Kh rfl (.d _) rfl hx16) <| XP rfl rfl rfl (JN fo_84_0 rfl) <| XP rfl rfl rfl (QK Y6 rfl rfl) <| XP rfl rfl rfl (RO.lenS st_9 rfl) <| XP rfl rfl rfl (Q4 rfl rfl rfl) <| XR rfl rfl rfl ?_
 refine Ja (d := 63) (c := (decide (200 < (x16.name.length : Int)))) rfl (fun c17 => ?_) (fun c17 => ?_)
 replace h2 := Qu c17 h2
 refine Qa rfl rfl <| Qa rfl rfl <| Qa rfl rfl <| Qa rfl rfl <| Qa rfl rfl <| Qa rfl rfl <| Qa rfl rfl <| Qa rfl rfl <| XP rfl rfl rfl (QC rfl rfl) <| Q3 ?_
 have e := XN h2; subst e
 exact QG true (Qh (XK rfl (XK rfl (XK rfl XJ))) (W8 rfl W7) W3 rfl (Nat.zero_le _) rfl rfl rfl (Wp rfl rfl Wm) rfl rfl) h1
 replace h2 := Qv c17 h2
 refine XP rfl rfl rfl (Q8 ZA rfl) <| XP rfl rfl rfl (Q7 Gu rfl rfl rfl) <| XR rfl rfl rfl ?_
 refine Qb h2 (fun x18 hx18 h2 => ?_)
 refine XP rfl rfl rfl (Qq (α := Ctr) Kh rfl (.d _) rfl hx18) <| XP rfl rfl rfl (JN fo_84_1 rfl) <| XP rfl rfl rfl (Jm JH rfl rfl rfl) ?_
 refine Qb h2 (fun x19 hx19 h2 => ?_)
 refine Q9 rfl rfl (W1 rfl) (Qt (KK x18.ty x19 hx19) rfl (.cons (.agg (.cons (.d _) (.cons (.d _) (.cons (.d _) (.cons (.d _) (.cons (.d _) .nil)))))) .nil)) <| XP rfl rfl rfl (Jp rfl) <| XP rfl rfl rfl (QL rfl rfl) <| Q3 ?_
 have e := XN h2; subst e
 exact QG (!x19) (Qh (XK rfl (XK rfl (XK rfl XJ))) (W8 rfl W7) W3 rfl (Nat.zero_le _) rfl rfl rfl (Wp rfl rfl Wm) rfl rfl) h1
 intro v15 h1
 refine Q1 ?_
 refine Qg (b := v15) rfl (fun c20 => ?_) (fun c20 => ?_)
 replace h1 := Qu c20 h1
 refine Q2 <| Q0 <| XS rfl rfl rfl <| Q3 <| Q1 <| Qw ?_
 have e := XN h1; subst e
 have e_ : _ = _ := ho1
 subst e_
 try dsimp only [Sum.elim_inl, Sum.elim_inr] at h0
 have e := XN h0; subst e
 exact QX (fun _ _ h => h) rfl (Qp rfl .nil) (.cons (.one (.d _)) .nil)
 replace h1 := Qv c20 h1
 refine Qj <| Qk <| Q1 <| Q0 <| XR rfl rfl rfl <| XP rfl rfl rfl (Q4 rfl rfl rfl) <| XS rfl rfl rfl <| Q3 ?_
 have e := XN h1; subst e
 refine QD (QW (s1 + 1)) (Qh (XK rfl (XK rfl XJ)) (W8 rfl W7) W3 rfl (Nat.zero_le _) rfl rfl rfl (Wp rfl rfl Wm) rfl rfl) ho1
 replace h1 := Qv c14 h1
 refine QN <| Qf <| Qf ?_
 have e := XN h1; subst e
 have e_ : _ = _ := ho1
 subst e_
 exact QF () (Qh (XK rfl XJ) (W8 rfl W7) W3 rfl (Nat.zero_le _) rfl rfl rfl (Wp rfl rfl Wm) rfl rfl) h0
 intro o12 h0
 refine Qx <| Q1 <| Q2 <| Q2 <| Q0 <| XS rfl rfl rfl <| Q3 <| Q1 <| Qd ?_
 refine QI 2 (fun (o21 : Unit) => ⟨[(1, .v (.one (.ptr 0 0)))], [(0, .cells 48 (Wj a0))], [], 1, 124, []⟩) (fun (o21 : Unit) => (Option.bind (Qo (ZD a0) QB 0) (Sum.elim (fun (o22 : Unit) => some true) (fun o => some o))) = some r) ?_ ?_
 refine Qb h0 (fun o22 hl1 h0 => ?_)
 refine QH (K6 a0) (fun s1 => ⟨[(1, .v (.one (.ptr 0 0))), (4, .v (.one (Wg s1)))], [(0, .cells 48 (Wj a0))], [], 1, 124, []⟩) 0 o22 (Qh (XK rfl (XK rfl XJ)) (W8 rfl W7) W3 rfl (Nat.zero_le _) rfl rfl rfl (Wp rfl rfl Wm) rfl rfl) hl1 (fun s1 n1 oo1 h1 ho1 => ?_)
 unfold K6 at h1
 refine Q2 <| Q2 <| Q0 <| XR rfl rfl rfl <| XP rfl rfl rfl (Q8 Kc rfl) <| XP rfl rfl rfl (Q8 G4 rfl) <| XP rfl rfl rfl (Q7 YG rfl rfl rfl) <| XP rfl rfl rfl (Qy (α := Tm) Ym rfl (.d _)) <| XP rfl rfl rfl (Q4 rfl rfl rfl) <| Q3 <| Q1 ?_
 refine Qg (b := (decide (s1 < (a0.rcr.rules.length : Int)))) rfl (fun c23 => ?_) (fun c23 => ?_)
 replace h1 := Qu c23 h1
 refine Qj <| Q1 <| Q2 <| Qd <| Q2 <| Q0 <| XP rfl rfl rfl (Q8 Kc rfl) <| XP rfl rfl rfl (Q8 G4 rfl) <| XP rfl rfl rfl (Q7 YG rfl rfl rfl) <| XR rfl rfl rfl ?_
 refine Qb h1 (fun x24 hx24 h1 => ?_)
 refine XP rfl rfl rfl (Qq (α := Tm) Ym rfl (.d _) rfl hx24) <| XP rfl rfl rfl (J4 (x24 : Tm) JH rfl) ?_
 refine Qb h1 (fun x25 hx25 h1 => ?_)
 refine Q9 rfl rfl (W1 rfl) (Qt (KK x24 x25 hx25) rfl (.cons (.agg (.cons (.d _) (.cons (.d _) (.cons (.d _) (.cons (.d _) (.cons (.d _) .nil)))))) .nil)) <| XP rfl rfl rfl (Jp rfl) <| Q3 <| Q1 ?_
 refine Qg (b := (!x25)) rfl (fun c26 => ?_) (fun c26 => ?_)
 replace h1 := Qu c26 h1
 refine Q2 <| Q0 <| XS rfl rfl rfl <| Q3 <| Q1 <| Qw ?_
 have e := XN h1; subst e
 have e_ : _ = _ := ho1
 subst e_
 try dsimp only [Sum.elim_inl, Sum.elim_inr] at h0
 have e := XN h0; subst e
 exact QX (fun _ _ h => h) rfl (Qp rfl .nil) (.cons (.one (.d _)) .nil)
 replace h1 := Qv c26 h1
 refine Qj <| Qk <| Q1 <| Q0 <| XR rfl rfl rfl <| XP rfl rfl rfl (Q4 rfl rfl rfl) <| XS rfl rfl rfl <| Q3 ?_
 have e := XN h1; subst e
 refine QD (QW (s1 + 1)) (Qh (XK rfl (XK rfl XJ)) (W8 rfl W7) W3 rfl (Nat.zero_le _) rfl rfl rfl (Wp rfl rfl Wm) rfl rfl) ho1
 replace h1 := Qv c23 h1
 refine QN <| Qf <| Qf ?_
 have e := XN h1; subst e
 have e_ : _ = _ := ho1
 subst e_
 exact QF () (Qh (XK rfl XJ) (W8 rfl W7) W3 rfl (Nat.zero_le _) rfl rfl rfl (Wp rfl rfl Wm) rfl rfl) h0
 intro o21 h0
 refine Qx <| Q1 <| Q2 <| Q2 <| Q0 <| XS rfl rfl rfl <| Q3 <| Q1 <| Qd ?_
 refine QI 4 (fun (o27 : Unit) => ⟨[], [(0, .cells 48 (Wj a0))], [], 1, 124, []⟩) (fun (o27 : Unit) => (some true) = some r) ?_ ?_
 refine Qb h0 (fun o28 hl1 h0 => ?_)
 refine QH (ZD a0) (fun s1 => ⟨[(1, .v (.one (.ptr 0 0))), (5, .v (.one (Wg s1)))], [(0, .cells 48 (Wj a0))], [], 1, 124, []⟩) 0 o28 (Qh (XK rfl (XK rfl XJ)) (W8 rfl W7) W3 rfl (Nat.zero_le _) rfl rfl rfl (Wp rfl rfl Wm) rfl rfl) hl1 (fun s1 n1 oo1 h1 ho1 => ?_)
 unfold ZD at h1
 refine Q2 <| Q2 <| Q0 <| XR rfl rfl rfl <| XP rfl rfl rfl (Q8 YY rfl) <| XP rfl rfl rfl (Q7 KE rfl rfl rfl) <| XP rfl rfl rfl (Qy (α := Fn) ZK rfl (.d _)) <| XP rfl rfl rfl (Q4 rfl rfl rfl) <| Q3 <| Q1 ?_
 refine Qg (b := (decide (s1 < (a0.funs.length : Int)))) rfl (fun c29 => ?_) (fun c29 => ?_)
 replace h1 := Qu c29 h1
 refine Qj <| Q1 <| Q2 <| Qd <| Q2 ?_
 refine Jy (fun (v30 : Bool) => ⟨[(1, .v (.one (.ptr 0 0))), (5, .v (.one (Wg s1))), (123, .v (.one (Wh v30)))], [(0, .cells 48 (Wj a0))], [], 1, 124, []⟩) (fun (v30 : Bool) => (cond v30
     (some (.done (.inr false)))
     (some (.next (QW (s1 + 1))))) = some oo1) ?_ ?_
 refine Qb h1 (fun w2_ h2 h1 => ?_)
 refine Q0 <| XP rfl rfl rfl (Q8 YY rfl) <| XP rfl rfl rfl (Q7 KE rfl rfl rfl) <| XR rfl rfl rfl ?_
 refine Qb h2 (fun x31 hx31 h2 => ?_)
 refine XP rfl rfl rfl (Qq (α := Fn) ZK rfl (.d _) rfl hx31) <| XP rfl rfl rfl (JN fo_89_0 rfl) <| XP rfl rfl rfl (QK Y6 rfl rfl) <| XP rfl rfl rfl (RO.lenS st_9 rfl) <| XP rfl rfl rfl (Q4 rfl rfl rfl) <| XR rfl rfl rfl ?_
 refine Ja (d := 104) (c := (decide (200 < (x31.name.length : Int)))) rfl (fun c32 => ?_) (fun c32 => ?_)
 replace h2 := Qu c32 h2
 refine Qa rfl rfl <| Qa rfl rfl <| Qa rfl rfl <| Qa rfl rfl <| Qa rfl rfl <| Qa rfl rfl <| Qa rfl rfl <| Qa rfl rfl <| XP rfl rfl rfl (QC rfl rfl) <| XR rfl rfl rfl <| Qa rfl rfl <| Qa rfl rfl <| Qa rfl rfl <| Qa rfl rfl ?_
 refine Qa rfl rfl <| Qa rfl rfl <| Qa rfl rfl <| Qa rfl rfl <| XP rfl rfl rfl (QC rfl rfl) <| Q3 ?_
 have e := XN h2; subst e
 exact QG true (Qh (XK rfl (XK rfl (XK rfl XJ))) (W8 rfl W7) W3 rfl (Nat.zero_le _) rfl rfl rfl (Wp rfl rfl Wm) rfl rfl) h1
 replace h2 := Qv c32 h2
 refine XP rfl rfl rfl (Q8 YY rfl) <| XP rfl rfl rfl (Q7 KE rfl rfl rfl) <| XR rfl rfl rfl ?_
 refine Qb h2 (fun x33 hx33 h2 => ?_)
 refine XP rfl rfl rfl (Qq (α := Fn) ZK rfl (.d _) rfl hx33) <| XP rfl rfl rfl (JN fo_89_1 rfl) <| XP rfl rfl rfl (Jm JH rfl rfl rfl) ?_
 refine Qb h2 (fun x34 hx34 h2 => ?_)
 refine Q9 rfl rfl (W1 rfl) (Qt (KK x33.ty x34 hx34) rfl (.cons (.agg (.cons (.d _) (.cons (.d _) (.cons (.d _) (.cons (.d _) (.cons (.d _) .nil)))))) .nil)) <| XP rfl rfl rfl (Jp rfl) <| XP rfl rfl rfl (QL rfl rfl) <| XR rfl rfl rfl ?_
 refine Ja (d := 114) (c := (!x34)) rfl (fun c35 => ?_) (fun c35 => ?_)
 replace h2 := Qu c35 h2
 refine Qa rfl rfl <| Qa rfl rfl <| Qa rfl rfl <| Qa rfl rfl <| Qa rfl rfl <| Qa rfl rfl <| Qa rfl rfl <| Qa rfl rfl <| XP rfl rfl rfl (QC rfl rfl) <| Q3 ?_
 have e := XN h2; subst e
 exact QG true (Qh (XK rfl (XK rfl (XK rfl XJ))) (W8 rfl W7) W3 rfl (Nat.zero_le _) rfl rfl rfl (Wp rfl rfl Wm) rfl rfl) h1
 replace h2 := Qv c35 h2
 refine XP rfl rfl rfl (Q8 YY rfl) <| XP rfl rfl rfl (Q7 KE rfl rfl rfl) <| XR rfl rfl rfl ?_
 refine Qb h2 (fun x36 hx36 h2 => ?_)
 refine XP rfl rfl rfl (Qq (α := Fn) ZK rfl (.d _) rfl hx36) <| XP rfl rfl rfl (JN fo_89_3 rfl) <| XP rfl rfl rfl (Jm ag_87 rfl rfl rfl) ?_
 refine Qb h2 (fun x37 hx37 h2 => ?_)
 refine Q9 rfl rfl (W1 rfl) (Qt (m51_ok x36.tree 0 x37 hx37) rfl (.cons (.agg (.cons (.d _) (.cons (.d _) (.cons (.d _) (.cons (.d _) (.cons (.d _) (.cons (.d _) (.cons (.d _) (.cons (.d _) .nil))))))))) (.cons (.one (.d _)) .nil))) <| XP rfl rfl rfl (Jp rfl) <| XP rfl rfl rfl (QL rfl rfl) <| Q3 ?_
 have e := XN h2; subst e
 exact QG (!x37) (Qh (XK rfl (XK rfl (XK rfl XJ))) (W8 rfl W7) W3 rfl (Nat.zero_le _) rfl rfl rfl (Wp rfl rfl Wm) rfl rfl) h1
 intro v30 h1
 refine Q1 ?_
 refine Qg (b := v30) rfl (fun c38 => ?_) (fun c38 => ?_)
 replace h1 := Qu c38 h1
 refine Q2 <| Q0 <| XS rfl rfl rfl <| Q3 <| Q1 <| Qw ?_
 have e := XN h1; subst e
 have e_ : _ = _ := ho1
 subst e_
 try dsimp only [Sum.elim_inl, Sum.elim_inr] at h0
 have e := XN h0; subst e
 exact QX (fun _ _ h => h) rfl (Qp rfl .nil) (.cons (.one (.d _)) .nil)
 replace h1 := Qv c38 h1
 refine Qj <| Qk <| Q1 <| Q0 <| XR rfl rfl rfl <| XP rfl rfl rfl (Q4 rfl rfl rfl) <| XS rfl rfl rfl <| Q3 ?_
 have e := XN h1; subst e
 refine QD (QW (s1 + 1)) (Qh (XK rfl (XK rfl XJ)) (W8 rfl W7) W3 rfl (Nat.zero_le _) rfl rfl rfl (Wp rfl rfl Wm) rfl rfl) ho1
 replace h1 := Qv c29 h1
 refine QN <| Qf <| Qf ?_
 have e := XN h1; subst e
 have e_ : _ = _ := ho1
 subst e_
 exact QF () (Qh XJ (W8 rfl W7) W3 rfl (Nat.zero_le _) rfl rfl rfl (Wp rfl rfl Wm) rfl rfl) h0
 intro o27 h0
 refine Qx <| Q1 <| Q2 <| Q0 <| XS rfl rfl rfl <| Q3 <| Q1 <| Qw ?_
 have e := XN h0; subst e
 exact QX (fun _ _ h => h) rfl (Qp rfl .nil) (.cons (.one (.d _)) .nil)
def GP (a0 : List Dcl) (s1 : Int) : Option (LO Int (Unit ⊕ Bool)) :=
 Option.bind (cond (decide (s1 < (a0.length : Int)))
   (some (decide (s1 < 80)))
   (some false)) (fun (v2 : Bool) => cond v2
   (Option.bind (J1 a0 s1) fun (x4 : Dcl) =>
 Option.bind (XD x4) fun (x5 : Bool) =>
 cond (!x5)
   (some (.done (.inr false)))
   (some (.next (QW (s1 + 1)))))
   (some (.done (.inl ()))))
def XX (a0 : List Dcl) : Option Bool :=
 Option.bind (Qo (GP a0) QB 0) (Sum.elim (fun (o1 : Unit) => some (decide ((a0.length : Int) ≤ 70))) (fun o => some o))
set_option maxRecDepth 100000 in
set_option maxHeartbeats 2000000 in
theorem m9_ok (a0 : List Dcl) (r : Bool) (h0 : XX a0 = some r) : Fun Try.prog 9 [.one (We a0)] (Qr [.one (Wh r)]) := by
 unfold XX at h0
 refine Jd 9 23 Try.func9 rfl en_9 rfl (W1 rfl) (fun S w => ?_)
 simp only [Jc]
 refine Q2 <| Q0 <| XS rfl rfl rfl <| Q3 <| Q1 <| Q2 <| Q2 <| Q0 <| XS rfl rfl rfl <| Q3 <| Q1 <| Qd ?_
 refine QI 0 (fun (o1 : Unit) => ⟨[(0, .v (.one (We a0)))], [], [], 0, 23, []⟩) (fun (o1 : Unit) => (some (decide ((a0.length : Int) ≤ 70))) = some r) ?_ ?_
 refine Qb h0 (fun o2 hl1 h0 => ?_)
 refine QH (GP a0) (fun s1 => ⟨[(0, .v (.one (We a0))), (3, .v (.one (Wg s1)))], [], [], 0, 23, []⟩) 0 o2 (Qh (XK rfl (XK rfl XJ)) W7 W3 rfl (Nat.zero_le _) rfl rfl rfl Wm rfl rfl) hl1 (fun s1 n1 oo1 h1 ho1 => ?_)
 unfold GP at h1
 refine Q2 <| Q2 ?_
 refine Jy (fun (v3 : Bool) => ⟨[(0, .v (.one (We a0))), (3, .v (.one (Wg s1))), (11, .v (.one (Wh v3)))], [], [], 0, 23, []⟩) (fun (v3 : Bool) => (cond v3
     (Option.bind (J1 a0 s1) fun (x5 : Dcl) =>
   Option.bind (XD x5) fun (x6 : Bool) =>
   cond (!x6)
     (some (.done (.inr false)))
     (some (.next (QW (s1 + 1)))))
     (some (.done (.inl ())))) = some oo1) ?_ ?_
 refine Qb h1 (fun w2_ h2 h1 => ?_)
 refine Q0 <| XR rfl rfl rfl <| XR rfl rfl rfl <| XP rfl rfl rfl (Qy (α := Dcl) J5 rfl (.d _)) <| XP rfl rfl rfl (Q4 rfl rfl rfl) <| XR rfl rfl rfl ?_
 refine Ja (d := 8) (c := (decide (s1 < (a0.length : Int)))) rfl (fun c4 => ?_) (fun c4 => ?_)
 replace h2 := Qu c4 h2
 refine XR rfl rfl rfl <| XP rfl rfl rfl (Q4 rfl rfl rfl) <| XP rfl rfl rfl (QC rfl rfl) <| Q3 ?_
 have e := XN h2; subst e
 exact QG (decide (s1 < 80)) (Qh (XK rfl (XK rfl (XK rfl XJ))) W7 W3 rfl (Nat.zero_le _) rfl rfl rfl Wm rfl rfl) h1
 replace h2 := Qv c4 h2
 refine Qa rfl rfl <| Qa rfl rfl <| XP rfl rfl rfl (QL rfl rfl) <| Q3 ?_
 have e := XN h2; subst e
 exact QG false (Qh (XK rfl (XK rfl (XK rfl XJ))) W7 W3 rfl (Nat.zero_le _) rfl rfl rfl Wm rfl rfl) h1
 intro v3 h1
 refine Q1 ?_
 refine Qg (b := v3) rfl (fun c5 => ?_) (fun c5 => ?_)
 replace h1 := Qu c5 h1
 refine Qj <| Q1 <| Q2 <| Qd <| Q2 <| Q0 <| XR rfl rfl rfl <| XR rfl rfl rfl ?_
 refine Qb h1 (fun x6 hx6 h1 => ?_)
 refine XP rfl rfl rfl (Qq (α := Dcl) J5 rfl (.d _) rfl hx6) <| XP rfl rfl rfl (J4 (x6 : Dcl) J3 rfl) ?_
 refine Qb h1 (fun x7 hx7 h1 => ?_)
 refine Q9 rfl rfl (W1 rfl) (Qt (m30_ok x6 x7 hx7) rfl (.cons (.agg (.cons (.d _) (.cons (.d _) (.cons (.d _) (.cons (.d _) (.cons (.d _) (.cons (.d _) (.cons (.d _) (.cons (.d _) (.cons (.d _) (.cons (.d _) (.cons (.d _) (.cons (.d _) (.cons (.d _) (.cons (.d _) (.cons (.d _) (.cons (.d _) (.cons (.d _) (.cons (.d _) (.cons (.d _) (.cons (.d _) (.cons (.d _) (.cons (.d _) (.cons (.d _) .nil)))))))))))))))))))))))) .nil)) <| XP rfl rfl rfl (Jp rfl) <| Q3 <| Q1 ?_
 refine Qg (b := (!x7)) rfl (fun c8 => ?_) (fun c8 => ?_)
 replace h1 := Qu c8 h1
 refine Q2 <| Q0 <| XS rfl rfl rfl <| Q3 <| Q1 <| Qw ?_
 have e := XN h1; subst e
 have e_ : _ = _ := ho1
 subst e_
 try dsimp only [Sum.elim_inl, Sum.elim_inr] at h0
 have e := XN h0; subst e
 exact QX (fun _ _ h => h) rfl (Qp rfl .nil) (.cons (.one (.d _)) .nil)
 replace h1 := Qv c8 h1
 refine Qj <| Qk <| Q1 <| Q0 <| XR rfl rfl rfl <| XP rfl rfl rfl (Q4 rfl rfl rfl) <| XS rfl rfl rfl <| Q3 ?_
 have e := XN h1; subst e
 refine QD (QW (s1 + 1)) (Qh (XK rfl (XK rfl XJ)) W7 W3 rfl (Nat.zero_le _) rfl rfl rfl Wm rfl rfl) ho1
 replace h1 := Qv c5 h1
 refine QN <| Qf <| Qf ?_
 have e := XN h1; subst e
 have e_ : _ = _ := ho1
 subst e_
 exact QF () (Qh (XK rfl XJ) W7 W3 rfl (Nat.zero_le _) rfl rfl rfl Wm rfl rfl) h0
 intro o1 h0
 refine Qx <| Q1 <| Q2 <| Q0 <| XR rfl rfl rfl <| XP rfl rfl rfl (Qy (α := Dcl) J5 rfl (.d _)) <| XP rfl rfl rfl (Q4 rfl rfl rfl) <| XS rfl rfl rfl <| Q3 <| Q1 <| Qw ?_
 have e := XN h0; subst e
 exact QX (fun _ _ h => h) rfl (Qp rfl .nil) (.cons (.one (.d _)) .nil)
end Go.Proofs.Ytijcchddnnnmdaa
namespace Go.Proofs.Ytijcchddnnnmdaa
open Go.RowKit Go.Shelf
set_option linter.unusedSimpArgs false
set_option linter.unusedVariables false
theorem en_29 : J9 Try.prog 29 := enters_of Try.func29 (by kernel_rfl) rfl
def m29_l0 (a0 : List Int) (a1 : List Int) (s1 : Int) : Option (LO Int (Unit ⊕ Bool)) :=
 cond (decide (s1 < (a0.length : Int)))
   (Option.bind (J1 a0 s1) fun (x4 : Int) =>
 Option.bind (J1 a1 s1) fun (x5 : Int) =>
 cond (x4 != x5)
   (some (.done (.inr false)))
   (some (.next (QW (s1 + 1)))))
   (some (.done (.inl ())))
def Xv (a0 : List Int) (a1 : List Int) : Option Bool :=
 cond ((a0.length : Int) != (a1.length : Int))
   (some false)
   (Option.bind (Qo (m29_l0 a0 a1) QB 0) (Sum.elim (fun (o2 : Unit) => some true) (fun o => some o)))
set_option maxRecDepth 100000 in
set_option maxHeartbeats 2000000 in
theorem m29_ok (a0 : List Int) (a1 : List Int) (r : Bool) (h0 : Xv a0 a1 = some r) : Fun Try.prog 29 [.one (We a0), .one (We a1)] (Qr [.one (Wh r)]) := by
 unfold Xv at h0
 refine Jd 9 26 Try.func29 rfl en_29 rfl (W1 rfl) (fun S w => ?_)
 simp only [Jc]
 refine Q2 <| Q0 <| XS rfl rfl rfl <| Q3 <| Q1 <| Q2 <| Q2 <| Q0 <| XR rfl rfl rfl <| XP rfl rfl rfl (Qy (α := Int) JP rfl (.d _)) <| XR rfl rfl rfl <| XP rfl rfl rfl (Qy (α := Int) JP rfl (.d _)) <| XP rfl rfl rfl (Q4 rfl rfl rfl) <| Q3 ?_
 refine Q1 ?_
 refine Qg (b := ((a0.length : Int) != (a1.length : Int))) rfl (fun c1 => ?_) (fun c1 => ?_)
 replace h0 := Qu c1 h0
 refine Q2 <| Q0 <| XS rfl rfl rfl <| Q3 <| Q1 <| Qw ?_
 have e := XN h0; subst e
 exact QX (fun _ _ h => h) rfl (Qp rfl .nil) (.cons (.one (.d _)) .nil)
 replace h0 := Qv c1 h0
 refine Qj <| Q1 <| Q2 <| Q2 <| Q0 <| XR rfl rfl rfl <| XP rfl rfl rfl (Qy (α := Int) JP rfl (.d _)) <| XR rfl rfl rfl <| Q3 <| Q1 <| Qd ?_
 refine QI 0 (fun (o2 : Unit) => ⟨[], [], [], 0, 26, []⟩) (fun (o2 : Unit) => (some true) = some r) ?_ ?_
 refine Qb h0 (fun o3 hl1 h0 => ?_)
 refine QH (m29_l0 a0 a1) (fun s1 => ⟨[(0, .v (.one (We a0))), (1, .v (.one (We a1))), (12, .v (.one (Wg (a0.length : Int)))), (13, .v (.one (Wg s1)))], [], [], 0, 26, []⟩) 0 o3 (Qh (XK rfl (XK rfl (XK rfl (XK rfl XJ)))) W7 W3 rfl (Nat.zero_le _) rfl rfl rfl Wm rfl rfl) hl1 (fun s1 n1 oo1 h1 ho1 => ?_)
 unfold m29_l0 at h1
 refine Q2 <| Q0 <| XP rfl rfl rfl (Q4 rfl rfl rfl) <| Q3 <| Q1 <| Q2 ?_
 refine Qg (b := (decide (s1 < (a0.length : Int)))) rfl (fun c4 => ?_) (fun c4 => ?_)
 replace h1 := Qu c4 h1
 refine Qj <| Q1 <| Q2 <| Qd <| Q2 <| Q0 <| XR rfl rfl rfl <| XS rfl rfl rfl <| Q3 <| Q1 <| Q2 ?_
 refine JZ [] [] mixed (by kernel_rfl) (by kernel_rfl) (by kernel_rfl) ?_
 refine RunA.rd rfl rfl rfl (Q5 (QV rfl)) rfl <| RunA.rd rfl rfl rfl (Q5 (QV rfl)) rfl ?_
 refine Qb h1 (fun x5 hx5 h1 => ?_)
 refine RunA.rd rfl rfl rfl (Q5 (Qq (α := Int) JP rfl (.d _) rfl hx5)) rfl <| RunA.rd rfl rfl rfl (Q5 (QK Gb rfl rfl)) rfl <| RunA.rd rfl rfl rfl (Q5 (QV rfl)) rfl <| RunA.rd rfl rfl rfl (Q5 (QV rfl)) rfl ?_
 refine Qb h1 (fun x6 hx6 h1 => ?_)
 refine RunA.rd rfl rfl rfl (Q5 (Qq (α := Int) JP rfl (.d _) rfl hx6)) rfl <| RunA.rd rfl rfl rfl (Q5 (QK Gb rfl rfl)) rfl <| RunA.rd rfl rfl rfl (Q5 (Q4 rfl rfl rfl)) rfl ?_
 refine RunA.nil ⟨?ex, _, _, rfl, ?_⟩
 case ex => exact trivial
 refine JT (st' := ⟨[(0, .v (.one (We a0))), (1, .v (.one (We a1))), (12, .v (.one (Wg (a0.length : Int)))), (13, .v (.one (Wg s1))), (24, .v (.one (Wh (x5 != x6))))], [], [], 0, 26, []⟩) (Qh (XK rfl (XK rfl (XK rfl (XK rfl (XK rfl XJ))))) W7 W3 rfl (Nat.zero_le _) rfl rfl rfl Wm rfl rfl) <| Q1 ?_
 refine Qg (b := (x5 != x6)) rfl (fun c7 => ?_) (fun c7 => ?_)
 replace h1 := Qu c7 h1
 refine Q2 <| Q0 <| XS rfl rfl rfl <| Q3 <| Q1 <| Qw ?_
 have e := XN h1; subst e
 have e_ : _ = _ := ho1
 subst e_
 try dsimp only [Sum.elim_inl, Sum.elim_inr] at h0
 have e := XN h0; subst e
 exact QX (fun _ _ h => h) rfl (Qp rfl .nil) (.cons (.one (.d _)) .nil)
 replace h1 := Qv c7 h1
 refine Qj <| Qk <| Q1 <| Q0 <| XP rfl rfl rfl (Q4 rfl rfl rfl) <| XR rfl rfl rfl <| Q3 ?_
 have e := XN h1; subst e
 refine QD (QW (s1 + 1)) (Qh (XK rfl (XK rfl (XK rfl (XK rfl XJ)))) W7 W3 rfl (Nat.zero_le _) rfl rfl rfl Wm rfl rfl) ho1
 replace h1 := Qv c4 h1
 refine QN <| Qf <| Qf ?_
 have e := XN h1; subst e
 have e_ : _ = _ := ho1
 subst e_
 exact QF () (Qh XJ W7 W3 rfl (Nat.zero_le _) rfl rfl rfl Wm rfl rfl) h0
 intro o2 h0
 refine Qx <| Q1 <| Q2 <| Q0 <| XS rfl rfl rfl <| Q3 <| Q1 <| Qw ?_
 have e := XN h0; subst e
 exact QX (fun _ _ h => h) rfl (Qp rfl .nil) (.cons (.one (.d _)) .nil)
end Go.Proofs.Ytijcchddnnnmdaa
namespace Go.Proofs.Ytijcchddnnnmdaa
open Go.RowKit Go.Lib
set_option linter.unusedSimpArgs false
set_option linter.unusedVariables false
set_option linter.unusedSectionVars false
theorem ZN {α σ τ β : Type} {step : τ → Option (LO τ β)} (l : List α) (mk : Int → σ → τ) (hlen : l.length ≤ 900000000)
    (hin : ∀ (a : List α) (x : α) (b : List α) (s : σ), l = a ++ x :: b → (∃ r, step (mk (a.length : Int) s) = some (.done r)) ∨ ∃ s', step (mk (a.length : Int) s) = some (.next (mk (QW ((a.length : Int) + 1)) s')))
    (hout : ∀ s, ∃ r, step (mk (l.length : Int) s) = some (.done r)) (s0 : σ) : ∃ r, Qo step QB (mk 0 s0) = some r := by
  obtain ⟨r, h, -⟩ := JD l mk (fun _ _ => True) (fun _ => True) hlen (fun a x b s e _ => (hin a x b s e).elim (fun ⟨r, h⟩ => .inl ⟨r, h, trivial⟩) (fun ⟨s', h⟩ => .inr ⟨s', h, trivial⟩)) (fun s _ => let ⟨r, h⟩ := hout s; ⟨r, h, trivial⟩) s0 trivial
  exact ⟨r, h⟩
theorem size_some : ∀ (n : Nat) (t : Tm), t.size ≤ n → t.size ≤ 900000000 → ∃ r, Yn Xm n t = some r
  | 0, t, h, _ => by rw [t.size_eq] at h; omega
  | n + 1, t, h, h2 => by
    show ∃ r, Xl (Yn Xm n) t = some r
    unfold Xl
    have hl := kids_len t
    obtain ⟨r, e⟩ := ZN (step := Gg t (Yn Xm n)) t.kids (fun i (s : Int) => (s, i)) (by omega)
      (fun a x b s e => by
        have hx := Tm.kid_size (t := t) (k := x) (by rw [e]; simp)
        obtain ⟨r, hr⟩ := size_some n x (by omega) (by omega)
        refine .inr ⟨QW (s + r), ?_⟩
        unfold Gg
        dsimp only
        rw [e, Ji, J6]
        simp only [cond_true, Option.bind_some]
        rw [hr]; rfl) (fun s => ⟨s, by unfold Gg; dsimp only; rw [Jz]; rfl⟩) 1
    rw [e]; exact ⟨r, rfl⟩
theorem depth_some : ∀ (n : Nat) (t : Tm), t.size ≤ n → t.size ≤ 900000000 → ∃ r, Yn Xk n t = some r
  | 0, t, h, _ => by rw [t.size_eq] at h; omega
  | n + 1, t, h, h2 => by
    show ∃ r, Xj (Yn Xk n) t = some r
    unfold Xj
    have hl := kids_len t
    obtain ⟨r, e⟩ := ZN (step := Gf t (Yn Xk n)) t.kids (fun i (s : Int) => (s, i)) (by omega)
      (fun a x b s e => by
        have hx := Tm.kid_size (t := t) (k := x) (by rw [e]; simp)
        obtain ⟨r, hr⟩ := depth_some n x (by omega) (by omega)
        refine .inr ⟨max s r, ?_⟩
        unfold Gf
        dsimp only
        rw [e, Ji, J6]
        simp only [cond_true, Option.bind_some]
        rw [hr]; rfl) (fun s => ⟨s, by unfold Gf; dsimp only; rw [Jz]; rfl⟩) 0
    rw [e]; exact ⟨_, rfl⟩
theorem Zq (t : Tm) (h : t.size ≤ 900000000) : ∃ b, Xp t = some b := by
  unfold Xp
  obtain ⟨r, e⟩ := size_some QB t (by unfold QB; omega) h
  obtain ⟨r2, e2⟩ := depth_some QB t (by unfold QB; omega) h
  unfold m65 m66
  rw [e, e2]
  simp only [Option.bind_some]
  cases decide (r ≤ 400) <;> exact ⟨_, rfl⟩
theorem tree_some : ∀ (n : Nat) (t : Tr) (d : Int), t.size ≤ n → t.size ≤ 900000000 → ∃ r, Yn Xo n (t, d) = some r
  | 0, t, d, h, _ => by rw [t.size_eq] at h; omega
  | n + 1, t, d, h, h2 => by
    show ∃ r, Xn (Yn Xo n) t d = some r
    unfold Xn
    have hl := branches_len t
    have hsz := t.size_eq
    obtain ⟨b, hb⟩ := Zq t.body (by omega)
    obtain ⟨r, e⟩ := ZN (step := KJ t (Yn Xo n) d) t.branches (fun i (s : Unit) => i) (by omega)
      (fun a x c s e => by
        have hx := Tr.kid_size (t := t) (b := x) (by rw [e]; simp)
        obtain ⟨r, hr⟩ := tree_some n x.tree (QW (d + 1)) (by omega) (by omega)
        unfold KJ
        rw [e, Ji, J6]
        simp only [cond_true, Option.bind_some]
        rw [hr]
        cases r with
        | false => exact .inl ⟨_, rfl⟩
        | true =>
          simp only [Option.bind_some, Bool.not_true, cond_false]
          cases decide (200 < (x.ctor.length : Int)) with
          | true => exact .inl ⟨_, rfl⟩
          | false => exact .inr ⟨(), rfl⟩) (fun s => ⟨_, by unfold KJ; rw [Jz]; rfl⟩) ()
    rw [e, hb]
    cases decide (40 < d) with
    | true => exact ⟨_, rfl⟩
    | false =>
      cases decide (40 < (t.branches.length : Int)) with
      | true => exact ⟨_, rfl⟩
      | false =>
        cases b with
        | false => exact ⟨_, rfl⟩
        | true =>
          cases r with
          | inl u => exact ⟨_, rfl⟩
          | inr u => exact ⟨_, rfl⟩
theorem m30_some (d : Dcl) (h : d.size ≤ 900000000) : ∃ b, XD d = some b := by
  have h1 := ZU d
  have h2 := ZS d
  have h3 := rules_len d
  have hty := Zn (d := d) (t := d.ty) (by unfold Jl; simp)
  have hval := Zn (d := d) (t := d.value) (by unfold Jl; simp)
  have hrt := Zn (d := d) (t := d.rcr.ty) (by unfold Jl; simp)
  obtain ⟨b1, e1⟩ := Zq d.ty (by omega)
  obtain ⟨b2, e2⟩ := Zq d.value (by omega)
  obtain ⟨b3, e3⟩ := Zq d.rcr.ty (by omega)
  obtain ⟨r1, l1⟩ := ZN (step := Kk d) d.ctors (fun i (s : Unit) => i) (by omega)
    (fun a x c s e => by
      have hx := Zn (d := d) (t := x.ty) (by unfold Jl; rw [e]; simp)
      obtain ⟨r, hr⟩ := Zq x.ty (by omega)
      unfold Kk
      rw [e, Ji, J6]
      simp only [cond_true, Option.bind_some]
      cases decide (200 < (x.name.length : Int)) with
      | true => exact .inl ⟨_, rfl⟩
      | false =>
        simp only [cond_false]
        rw [hr]
        cases r with
        | false => exact .inl ⟨_, rfl⟩
        | true => exact .inr ⟨(), rfl⟩) (fun s => ⟨_, by unfold Kk; rw [Jz]; rfl⟩) ()
  obtain ⟨r2, l2⟩ := ZN (step := K6 d) d.rcr.rules (fun i (s : Unit) => i) (by omega)
    (fun a x c s e => by
      have hx := Zn (d := d) (t := x) (by unfold Jl; rw [e]; simp)
      obtain ⟨r, hr⟩ := Zq x (by omega)
      unfold K6
      rw [e, Ji, J6]
      simp only [cond_true, Option.bind_some]
      rw [hr]
      cases r with
      | false => exact .inl ⟨_, rfl⟩
      | true => exact .inr ⟨(), rfl⟩) (fun s => ⟨_, by unfold K6; rw [Jz]; rfl⟩) ()
  obtain ⟨r3, l3⟩ := ZN (step := ZD d) d.funs (fun i (s : Unit) => i) (by omega)
    (fun a x c s e => by
      have hx := Zn (d := d) (t := x.ty) (by unfold Jl; rw [e]; simp)
      have hf := fun_mem (d := d) (f := x) (by rw [e]; simp)
      obtain ⟨r, hr⟩ := Zq x.ty (by omega)
      obtain ⟨q, hq⟩ := tree_some QB x.tree 0 (by unfold QB; omega) (by omega)
      unfold ZD
      rw [e, Ji, J6]
      simp only [cond_true, Option.bind_some]
      cases decide (200 < (x.name.length : Int)) with
      | true => exact .inl ⟨_, rfl⟩
      | false =>
        simp only [cond_false]
        rw [hr]
        cases r with
        | false => exact .inl ⟨_, rfl⟩
        | true =>
          simp only [Option.bind_some, Bool.not_true, cond_false]
          unfold m51
          rw [hq]
          cases q with
          | false => exact .inl ⟨_, rfl⟩
          | true => exact .inr ⟨(), rfl⟩) (fun s => ⟨_, by unfold ZD; rw [Jz]; rfl⟩) ()
  have tail : ∃ b, Option.bind (Qo (Kk d) QB 0) (Sum.elim (fun (o3 : Unit) => Option.bind (Qo (K6 d) QB 0) (Sum.elim (fun (o4 : Unit) => Option.bind (Qo (ZD d) QB 0) (Sum.elim (fun (o5 : Unit) => some true) (fun o => some o))) (fun o => some o))) (fun o => some o)) = some b := by
    rw [l1, l2, l3]
    cases r1 with
    | inr u => exact ⟨_, rfl⟩
    | inl u =>
      cases r2 with
      | inr u => exact ⟨_, rfl⟩
      | inl u =>
        cases r3 with
        | inr u => exact ⟨_, rfl⟩
        | inl u => exact ⟨_, rfl⟩
  obtain ⟨bt, ht⟩ := tail
  unfold XD
  rw [e1, e2, e3, ht]
  cases decide (200 < (d.name.length : Int)) with
  | true => exact ⟨_, rfl⟩
  | false =>
    cases b1 with
    | false => exact ⟨_, rfl⟩
    | true =>
      cases b2 with
      | false => exact ⟨_, rfl⟩
      | true =>
        cases decide (40 < (d.ctors.length : Int)) with
        | true => exact ⟨_, rfl⟩
        | false =>
          cases decide (12 < (d.funs.length : Int)) with
          | true => exact ⟨_, rfl⟩
          | false =>
            cases b3 with
            | false => exact ⟨_, rfl⟩
            | true =>
              cases h7 : decide (40 < (d.rcr.rules.length : Int)) with
              | true => exact ⟨false, by simp [h7]⟩
              | false => exact ⟨bt, by simp [h7]⟩
theorem m9_some (env : List Dcl) (h : Ke env ≤ 900000000) : ∃ b, XX env = some b ∧ (b = true → env.length ≤ 70) := by
  have hel := Ky env
  obtain ⟨r, e, hr⟩ := JD (step := GP env) env (fun i (s : Unit) => i) (fun _ _ => True) (fun r => r = .inl () ∨ r = .inr false) (by omega)
    (fun a x c s e _ => by
      have hx := K1 (env := env) (d := x) (by rw [e]; simp)
      obtain ⟨r, hr⟩ := m30_some x (by omega)
      unfold GP
      rw [e, Ji, J6]
      simp only [cond_true, Option.bind_some]
      cases decide ((a.length : Int) < 80) with
      | false => exact .inl ⟨_, rfl, .inl rfl⟩
      | true =>
        simp only [cond_true]
        rw [hr]
        cases r with
        | false => exact .inl ⟨_, rfl, .inr rfl⟩
        | true => exact .inr ⟨(), rfl, trivial⟩) (fun s _ => ⟨_, by unfold GP; rw [Jz]; rfl, .inl rfl⟩) () trivial
  unfold XX
  rw [e]
  rcases hr with rfl | rfl
  · exact ⟨_, rfl, fun hb => by have := of_decide_eq_true hb; omega⟩
  · exact ⟨false, rfl, fun hb => by cases hb⟩
end Go.Proofs.Ytijcchddnnnmdaa
namespace Go.Proofs.Ytijcchddnnnmdaa
open Go.RowKit Go.Shelf
set_option linter.unusedSimpArgs false
set_option linter.unusedVariables false
def m23o_l0 (x10 : (List Wy)) (s2 : Int × (Qc Wy Int)) (s3 : Int × (Qc Wy Int)) : Option (LO (Int × (Qc Wy Int)) (((Qc Wy Int)) ⊕ (((List (List Int)) × (Qc Wy Int)) ⊕ Unit ⊕ Unit))) :=
 cond (decide (s3.1 < (x10.length : Int)))
   (Option.bind (J1 x10 s3.1) fun (x13 : Wy) =>
 cond (Jr s3.2 x13)
   (some (.done (.inr (.inr (.inl ())))))
   (some (.next ((QW (s3.1 + 1)), (JR s3.2 x13 s2.1)))))
   (some (.done (.inl s3.2)))
def m23o_l1 (nn : Nat) (a0 : List Dcl) (s2 : Int × (Qc Wy Int)) : Option (LO (Int × (Qc Wy Int)) (((Qc Wy Int)) ⊕ (((List (List Int)) × (Qc Wy Int)) ⊕ Unit ⊕ Unit))) :=
 cond (decide (s2.1 < ((nn : Nat) : Int)))
   (Option.bind (J1 a0 s2.1) fun (x8 : Dcl) =>
 Qm (Nat.beq a0.length nn)
 (Option.bind (X8 x8) fun (x10 : (List Wy)) =>
 Option.bind (Qo (m23o_l0 x10 s2) QB (0, s2.2)) (Sum.elim (fun (o11 : (Qc Wy Int)) => some (.next ((QW (s2.1 + 1)), o11))) (fun o => some (.done (.inr o))))))
   (some (.done (.inl s2.2)))
def m23o_l2 (x11 : (List Wy)) (o6 : (Qc Wy Int)) (s3 : (List Int) × Int) : Option (LO ((List Int) × Int) (((List Int)) ⊕ (((List (List Int)) × (Qc Wy Int)) ⊕ Unit ⊕ Unit))) :=
 cond (decide (s3.2 < (x11.length : Int)))
   (Option.bind (J1 x11 s3.2) fun (x14 : Wy) =>
 cond (!(Jr o6 x14))
   (some (.done (.inr (.inr (.inr ())))))
   (Qm (Nat.ble (s3.1.length + ([(J7 o6 x14)]).length) 1000000000)
 (some (.next ((s3.1 ++ ([(J7 o6 x14)])), (QW (s3.2 + 1)))))))
   (some (.done (.inl s3.1)))
def m23o_l3 (nn : Nat) (a0 : List Dcl) (o6 : (Qc Wy Int)) (s2 : Int × (List (List Int))) : Option (LO (Int × (List (List Int))) (((List (List Int))) ⊕ (((List (List Int)) × (Qc Wy Int)) ⊕ Unit ⊕ Unit))) :=
 cond (decide (s2.1 < ((nn : Nat) : Int)))
   (Option.bind (J1 a0 s2.1) fun (x9 : Dcl) =>
 Qm (Nat.beq a0.length nn)
 (Option.bind (Xe x9) fun (x11 : (List Wy)) =>
 Option.bind (Qo (m23o_l2 x11 o6) QB (([] : List Int), 0)) (Sum.elim (fun (o12 : (List Int)) => Option.bind (YZ o12) fun (x13 : List Int) =>
 Option.bind (JM x13 ((Enc.encL o12).length)) fun (x14 : List Int) =>
 Qm (Nat.ble (s2.2.length + ([x14]).length) 1000000000)
 (some (.next ((QW (s2.1 + 1)), (s2.2 ++ ([x14])))))) (fun o => some (.done (.inr o))))))
   (some (.done (.inl s2.2)))
def m23o (a0 : List Dcl) (nn : Nat) : Option ((List (List Int)) × Int) :=
 Option.bind (Option.bind (Qo (m23o_l1 nn a0) QB (0, gmNil)) (Sum.elim (fun (o6 : (Qc Wy Int)) => Option.bind (Qo (m23o_l3 nn a0 o6) QB (0, ([] : List (List Int)))) (Sum.elim (fun (o7 : (List (List Int))) => some (.inl (o7, o6))) (fun o => some o))) (fun o => some o))) (Sum.elim (fun (y1 : (List (List Int)) × (Qc Wy Int)) => some (y1.1, 0)) (Sum.elim (fun (y2 : Unit) => some (([] : List (List Int)), 8)) (fun (y3 : Unit) => some (([] : List (List Int)), 9))))
set_option maxRecDepth 100000 in
set_option maxHeartbeats 2000000 in
theorem m23o_ok (a0 : List Dcl) (nn : Nat) (r : (List (List Int)) × Int) (h0 : m23o a0 nn = some r) : CallM Try.prog 23 [.one (.osl 0 0 nn nn)] ⟨[(0, .cells 48 (Q6 a0))], [], 1⟩ (Qr [.one (We r.1), .one (Wg r.2)]) ⟨[(0, .cells 48 (Q6 a0))], [], 6⟩ := by
 unfold m23o at h0
 refine QM ⟨[(2, .v (.one (We r.1))), (3, .v (.one (Wg r.2)))], [(0, .cells 48 (Q6 a0))], [], 6, 14, []⟩ rfl rfl en_23 (W1 rfl) rfl (Qp rfl (Qp rfl .nil)) (fun w0 M V0 Q hv0 hQ0 => ?_)
 simp only [Jc]
 refine Q2 <| Q0 <| XS rfl rfl rfl <| XS rfl rfl rfl <| Q3 <| Q1 <| Q2 <| Q0 <| XR rfl rfl rfl ?_
 refine Qb h0 (fun y5 h1 h0 => ?_)
 have hc4 : CallM Try.prog 34 [.one (.osl 0 0 nn nn)] ⟨[(0, .cells 48 (Q6 a0))], [], 1⟩ (Qr (((Sum.elim (fun (y1 : (List (List Int)) × (Qc Wy Int)) => ([.agg [Wi 4 y1.1, .mp 2], .one (Wg 0)] : List AV)) (Sum.elim (fun (y2 : Unit) => ([.agg [Wf, .d (.v (.map none))], .one (Wg 8)] : List AV)) (fun (y3 : Unit) => ([.agg [Wf, .d (.v (.map none))], .one (Wg 9)] : List AV))))) y5)) ⟨(((Sum.elim (fun (y1 : (List (List Int)) × (Qc Wy Int)) => (⟨[(2, .v (.one (.ptr 1 0))), (3, .v (.one (Wg 0)))], [(0, .cells 48 (Q6 a0)), (1, .cells 72 [Wi 4 y1.1, .mp 2]), (2, .mp (QJ y1.2.1) y1.2.2)], [(4, some ⟨54, 1, (Enc.encL y1.1).length, []⟩)], 5, 88, []⟩ : St)) (Sum.elim (fun (y2 : Unit) => (⟨[(2, .v (.one (.ptr 1 0))), (3, .v (.one (Wg 8)))], [(0, .cells 48 (Q6 a0)), (1, .cells 72 [Wf, .d (.v (.map none))])], [], 5, 88, []⟩ : St)) (fun (y3 : Unit) => (⟨[(2, .v (.one (.ptr 1 0))), (3, .v (.one (Wg 9)))], [(0, .cells 48 (Q6 a0)), (1, .cells 72 [Wf, .d (.v (.map none))])], [], 7, 88, []⟩ : St))))) y5).hp, (((Sum.elim (fun (y1 : (List (List Int)) × (Qc Wy Int)) => (⟨[(2, .v (.one (.ptr 1 0))), (3, .v (.one (Wg 0)))], [(0, .cells 48 (Q6 a0)), (1, .cells 72 [Wi 4 y1.1, .mp 2]), (2, .mp (QJ y1.2.1) y1.2.2)], [(4, some ⟨54, 1, (Enc.encL y1.1).length, []⟩)], 5, 88, []⟩ : St)) (Sum.elim (fun (y2 : Unit) => (⟨[(2, .v (.one (.ptr 1 0))), (3, .v (.one (Wg 8)))], [(0, .cells 48 (Q6 a0)), (1, .cells 72 [Wf, .d (.v (.map none))])], [], 5, 88, []⟩ : St)) (fun (y3 : Unit) => (⟨[(2, .v (.one (.ptr 1 0))), (3, .v (.one (Wg 9)))], [(0, .cells 48 (Q6 a0)), (1, .cells 72 [Wf, .d (.v (.map none))])], [], 7, 88, []⟩ : St))))) y5).tk, (((Sum.elim (fun (y1 : (List (List Int)) × (Qc Wy Int)) => (⟨[(2, .v (.one (.ptr 1 0))), (3, .v (.one (Wg 0)))], [(0, .cells 48 (Q6 a0)), (1, .cells 72 [Wi 4 y1.1, .mp 2]), (2, .mp (QJ y1.2.1) y1.2.2)], [(4, some ⟨54, 1, (Enc.encL y1.1).length, []⟩)], 5, 88, []⟩ : St)) (Sum.elim (fun (y2 : Unit) => (⟨[(2, .v (.one (.ptr 1 0))), (3, .v (.one (Wg 8)))], [(0, .cells 48 (Q6 a0)), (1, .cells 72 [Wf, .d (.v (.map none))])], [], 5, 88, []⟩ : St)) (fun (y3 : Unit) => (⟨[(2, .v (.one (.ptr 1 0))), (3, .v (.one (Wg 9)))], [(0, .cells 48 (Q6 a0)), (1, .cells 72 [Wf, .d (.v (.map none))])], [], 7, 88, []⟩ : St))))) y5).nx⟩ := by
  refine JC y5 ((Sum.elim (fun (y1 : (List (List Int)) × (Qc Wy Int)) => (⟨[(2, .v (.one (.ptr 1 0))), (3, .v (.one (Wg 0)))], [(0, .cells 48 (Q6 a0)), (1, .cells 72 [Wi 4 y1.1, .mp 2]), (2, .mp (QJ y1.2.1) y1.2.2)], [(4, some ⟨54, 1, (Enc.encL y1.1).length, []⟩)], 5, 88, []⟩ : St)) (Sum.elim (fun (y2 : Unit) => (⟨[(2, .v (.one (.ptr 1 0))), (3, .v (.one (Wg 8)))], [(0, .cells 48 (Q6 a0)), (1, .cells 72 [Wf, .d (.v (.map none))])], [], 5, 88, []⟩ : St)) (fun (y3 : Unit) => (⟨[(2, .v (.one (.ptr 1 0))), (3, .v (.one (Wg 9)))], [(0, .cells 48 (Q6 a0)), (1, .cells 72 [Wf, .d (.v (.map none))])], [], 7, 88, []⟩ : St))))) ((Sum.elim (fun (y1 : (List (List Int)) × (Qc Wy Int)) => ([.agg [Wi 4 y1.1, .mp 2], .one (Wg 0)] : List AV)) (Sum.elim (fun (y2 : Unit) => ([.agg [Wf, .d (.v (.map none))], .one (Wg 8)] : List AV)) (fun (y3 : Unit) => ([.agg [Wf, .d (.v (.map none))], .one (Wg 9)] : List AV))))) rfl rfl GR (W1 rfl) (fun z_ => by cases z_ with
    | inl _ => rfl
    | inr z_ => exact (by cases z_ <;> rfl)) (fun z_ => by cases z_ with
    | inl _ => exact (JU J2 rfl rfl rfl rfl (Qp rfl .nil))
    | inr z_ => exact (by cases z_ with
    | inl _ => exact (JU J2 rfl rfl rfl rfl (Qp rfl .nil))
    | inr _ => exact (JU J2 rfl rfl rfl rfl (Qp rfl .nil)))) (fun w0 M V0 Q hv1 hQ1 => ?_)
  simp only [Jc]
  refine Q2 <| Q0 <| Q9 rfl rfl (W1 rfl) (Ql YJ rfl) <| XS rfl rfl rfl <| Q3 <| Q1 <| Q2 <| Q0 <| Q9 rfl rfl (W1 rfl) (JW Wy Int) <| XP rfl rfl rfl (YX YR rfl rfl rfl) <| Q9 rfl rfl (W1 rfl) (Ql YJ rfl) <| QA rfl rfl (Qi J2 rfl rfl rfl rfl (W1 rfl) rfl) <| Q3 <| Q1 ?_
  refine Q2 <| Q2 <| Q0 <| XR rfl rfl rfl <| XP rfl rfl rfl (Y7 J5 rfl) <| XR rfl rfl rfl <| Q3 <| Q1 <| Qd ?_
  refine QI 0 (fun (o6 : (Qc Wy Int)) => ⟨[(0, .v (.one (.osl 0 0 nn nn))), (2, .v (.one (.ptr 1 0))), (4, .v (.one (.ptr 3 0)))], [(0, .cells 48 (Q6 a0)), (1, .cells 72 [Wf, .d (.v (.map none))]), (2, .mp (QJ o6.1) o6.2), (3, .cells 72 [Wf, .mp 2])], [], 4, 88, []⟩) (fun (o6 : (Qc Wy Int)) => (Option.bind (Qo (m23o_l3 nn a0 o6) QB (0, ([] : List (List Int)))) (Sum.elim (fun (o7 : (List (List Int))) => some (.inl (o7, o6))) (fun o => some o))) = some y5) ?_ ?_
  refine Qb h1 (fun o7 hl2 h1 => ?_)
  refine QH (m23o_l1 nn a0) (fun s2 => ⟨[(0, .v (.one (.osl 0 0 nn nn))), (2, .v (.one (.ptr 1 0))), (4, .v (.one (.ptr 3 0))), (20, .v (.one (.osl 0 0 nn nn))), (21, .v (.one (Wg ((nn : Nat) : Int)))), (22, .v (.one (Wg s2.1)))], [(0, .cells 48 (Q6 a0)), (1, .cells 72 [Wf, .d (.v (.map none))]), (2, .mp (QJ s2.2.1) s2.2.2), (3, .cells 72 [Wf, .mp 2])], [], 4, 88, []⟩) (0, gmNil) o7 (Qh (XK rfl (XK rfl (XK rfl (XK rfl (XK rfl (XK rfl XJ)))))) (W8 rfl (W8 rfl (W8 rfl (W8 rfl W7)))) W3 rfl (Nat.le_trans hv1 (W1 rfl)) rfl rfl rfl (Wo rfl (Wp rfl rfl (Wn rfl (Wp rfl rfl Wm)))) rfl rfl) hl2 (fun s2 n2 oo2 h2 ho2 => ?_)
  unfold m23o_l1 at h2
  refine Q2 <| Q0 <| XP rfl rfl rfl (Q4 rfl rfl rfl) <| Q3 <| Q1 <| Q2 ?_
  refine Qg (b := (decide (s2.1 < ((nn : Nat) : Int)))) rfl (fun c8 => ?_) (fun c8 => ?_)
  replace h2 := Qu c8 h2
  refine Qj <| Q1 <| Q2 <| Qd <| Q2 <| Q0 <| XR rfl rfl rfl ?_
  refine Qb h2 (fun x9 hx9 h2 => ?_)
  refine QO h2 (fun g10 h2 => ?_)
  refine XP rfl rfl rfl (Jk (α := Dcl) J5 rfl rfl hx9 g10) <| XP rfl rfl rfl (Yq (α := Dcl) (ys := [Wg x9.kind, YK x9.name, Wg x9.params, Wg x9.ty.kind, Wg x9.ty.index, YK x9.ty.name, We x9.ty.levels, We x9.ty.kids, Wg x9.value.kind, Wg x9.value.index, YK x9.value.name, We x9.value.levels, We x9.value.kids, Wg x9.fixed, We x9.ctors, Wg x9.rcr.params, Wg x9.rcr.ty.kind, Wg x9.rcr.ty.index, YK x9.rcr.ty.name, We x9.rcr.ty.levels, We x9.rcr.ty.kids, We x9.rcr.rules, We x9.funs]) J3 rfl rfl hx9 rfl) <| Q9 rfl rfl (W1 rfl) (Ql Z8 rfl) <| XS rfl rfl rfl <| QA rfl rfl (Jb (x9 : Dcl) J3 rfl rfl rfl rfl rfl) <| Q3 <| Q1 <| Q2 <| Q0 <| XP rfl rfl rfl (Jj (x9 : Dcl) J3 rfl rfl) ?_
  refine Qb h2 (fun x11 hx11 h2 => ?_)
  refine Q9 rfl rfl (W1 rfl) (Qt (K5 x9 x11 hx11) rfl (.cons (.agg (.cons (.d _) (.cons (.d _) (.cons (.d _) (.cons (.d _) (.cons (.d _) (.cons (.d _) (.cons (.d _) (.cons (.d _) (.cons (.d _) (.cons (.d _) (.cons (.d _) (.cons (.d _) (.cons (.d _) (.cons (.d _) (.cons (.d _) (.cons (.d _) (.cons (.d _) (.cons (.d _) (.cons (.d _) (.cons (.d _) (.cons (.d _) (.cons (.d _) (.cons (.d _) .nil)))))))))))))))))))))))) .nil)) <| XP rfl rfl rfl (Qy (α := Wy) QQ rfl (.d _)) <| XR rfl rfl rfl <| Q3 <| Q1 <| Qd ?_
  refine QI 2 (fun (o12 : (Qc Wy Int)) => ⟨[(0, .v (.one (.osl 0 0 nn nn))), (2, .v (.one (.ptr 1 0))), (4, .v (.one (.ptr 3 0))), (20, .v (.one (.osl 0 0 nn nn))), (21, .v (.one (Wg ((nn : Nat) : Int)))), (22, .v (.one (Wg s2.1)))], [(0, .cells 48 (Q6 a0)), (1, .cells 72 [Wf, .d (.v (.map none))]), (2, .mp (QJ o12.1) o12.2), (3, .cells 72 [Wf, .mp 2]), (4, .cells 48 (Wj x9))], [], 5, 88, []⟩) (fun (o12 : (Qc Wy Int)) => (some (.next ((QW (s2.1 + 1)), o12))) = some oo2) ?_ ?_
  refine Qb h2 (fun o13 hl3 h2 => ?_)
  refine QH (m23o_l0 x11 s2) (fun s3 => ⟨[(0, .v (.one (.osl 0 0 nn nn))), (2, .v (.one (.ptr 1 0))), (4, .v (.one (.ptr 3 0))), (5, .v (.one (Wg s2.1))), (20, .v (.one (.osl 0 0 nn nn))), (21, .v (.one (Wg ((nn : Nat) : Int)))), (22, .v (.one (Wg s2.1))), (28, .v (.one (We x11))), (29, .v (.one (Wg (x11.length : Int)))), (30, .v (.one (Wg s3.1)))], [(0, .cells 48 (Q6 a0)), (1, .cells 72 [Wf, .d (.v (.map none))]), (2, .mp (QJ s3.2.1) s3.2.2), (3, .cells 72 [Wf, .mp 2]), (4, .cells 48 (Wj x9))], [], 5, 88, []⟩) (0, s2.2) o13 (Qh (XK rfl (XK rfl (XK rfl (XK rfl (XK rfl (XK rfl (XK rfl (XK rfl (XK rfl (XK rfl XJ)))))))))) (W8 rfl (W8 rfl (W8 rfl (W8 rfl (W8 rfl W7))))) W3 rfl (Nat.le_trans hv1 (W1 rfl)) rfl rfl rfl (Wo rfl (Wp rfl rfl (Wn rfl (Wp rfl rfl (Wp rfl rfl Wm))))) rfl rfl) hl3 (fun s3 n3 oo3 h3 ho3 => ?_)
  unfold m23o_l0 at h3
  refine Q2 <| Q0 <| XP rfl rfl rfl (Q4 rfl rfl rfl) <| Q3 <| Q1 <| Q2 ?_
  refine Qg (b := (decide (s3.1 < (x11.length : Int)))) rfl (fun c14 => ?_) (fun c14 => ?_)
  replace h3 := Qu c14 h3
  refine Qj <| Q1 <| Q2 <| Qd <| Q2 <| Q0 ?_
  refine Qb h3 (fun x15 hx15 h3 => ?_)
  refine XP rfl rfl rfl (Qq (α := Wy) QQ rfl (.d _) rfl hx15) <| XP rfl rfl rfl (QK Y6 rfl rfl) <| XS rfl rfl rfl <| Q3 <| Q1 <| Q2 <| Q2 <| Q0 <| XP rfl rfl rfl (Q8 JJ rfl) <| XP rfl rfl rfl (Q7 Yw rfl rfl rfl) <| XR rfl rfl rfl <| XP rfl rfl rfl (Jo (M := s3.2) (k := x15) Yv Yb rfl rfl rfl) <| XR rfl rfl rfl <| XP rfl rfl rfl (Qe rfl rfl) ?_
  refine XP rfl rfl rfl (Qe rfl rfl) <| XS rfl rfl rfl <| XS rfl rfl rfl <| Q3 <| Q1 <| Q2 <| Q0 <| XR rfl rfl rfl <| Q3 <| Q1 ?_
  refine Qg (b := (Jr s3.2 x15)) rfl (fun c16 => ?_) (fun c16 => ?_)
  replace h3 := Qu c16 h3
  refine Q2 <| Q0 <| XP rfl rfl rfl (Y1 YR rfl ) <| QA rfl rfl (Qi J2 rfl rfl rfl rfl (W1 rfl) rfl) <| XS rfl rfl rfl <| Q3 <| Q1 <| Qw ?_
  have e := XN h3; subst e
  have e_ : _ = _ := ho3
  subst e_
  try dsimp only [Sum.elim_inl, Sum.elim_inr] at h2
  have e := XN h2; subst e
  have e_ : _ = _ := ho2
  subst e_
  try dsimp only [Sum.elim_inl, Sum.elim_inr] at h1
  have e := XN h1; subst e
  exact hQ1 _ _ _ (.inr rfl) rfl (show StLe _ _ ⟨[(2, .v (.one (.ptr 1 0))), (3, .v (.one (Wg 8)))], [(0, .cells 48 (Q6 a0)), (1, .cells 72 [Wf, .d (.v (.map none))])], [], 5, 88, []⟩ from (Qh (XK rfl (XK rfl XJ)) (W8 rfl (W8 rfl W7)) W3 rfl (Nat.le_trans hv1 (W1 rfl)) rfl rfl rfl (Wo rfl (Wp rfl rfl Wm)) rfl rfl))
  replace h3 := Qv c16 h3
  refine Qj <| Q1 <| Q0 <| XP rfl rfl rfl (Q8 JJ rfl) <| XP rfl rfl rfl (Q7 Yw rfl rfl rfl) <| XR rfl rfl rfl <| XR rfl rfl rfl <| QA rfl rfl (JI (M := s3.2) (k := x15) (v := s2.1) Yv rfl rfl rfl rfl rfl) <| Q3 <| Qk <| Q1 <| Q0 <| XP rfl rfl rfl (Q4 rfl rfl rfl) <| XR rfl rfl rfl ?_
  refine Q3 ?_
  have e := XN h3; subst e
  refine QD ((QW (s3.1 + 1)), (JR s3.2 x15 s2.1)) (Qh (XK rfl (XK rfl (XK rfl (XK rfl (XK rfl (XK rfl (XK rfl (XK rfl (XK rfl (XK rfl XJ)))))))))) (W8 rfl (W8 rfl (W8 rfl (W8 rfl (W8 rfl W7))))) W3 rfl (Nat.le_trans hv1 (W1 rfl)) rfl rfl rfl (Wo rfl (Wp rfl rfl (Wn rfl (Wp rfl rfl (Wp rfl rfl Wm))))) rfl rfl) ho3
  replace h3 := Qv c14 h3
  refine QN <| Qf <| Qf ?_
  have e := XN h3; subst e
  have e_ : _ = _ := ho3
  subst e_
  exact QF s3.2 (Qh (XK rfl (XK rfl (XK rfl (XK rfl (XK rfl (XK rfl XJ)))))) (W8 rfl (W8 rfl (W8 rfl (W8 rfl (W8 rfl W7))))) W3 rfl (Nat.le_trans hv1 (W1 rfl)) rfl rfl rfl (Wo rfl (Wp rfl rfl (Wn rfl (Wp rfl rfl (Wp rfl rfl Wm))))) rfl rfl) h2
  intro o12 h2
  refine Qx <| Qk <| Q1 <| Q0 <| XP rfl rfl rfl (Q4 rfl rfl rfl) <| XR rfl rfl rfl <| Q3 ?_
  have e := XN h2; subst e
  refine QD ((QW (s2.1 + 1)), o12) (Qh (XK rfl (XK rfl (XK rfl (XK rfl (XK rfl (XK rfl XJ)))))) (W8 rfl (W8 rfl (W8 rfl (W8 rfl W7)))) W3 rfl (Nat.le_trans hv1 (W1 rfl)) rfl rfl rfl (Wo rfl (Wp rfl rfl (Wn rfl (Wp rfl rfl Wm)))) rfl rfl) ho2
  replace h2 := Qv c8 h2
  refine QN <| Qf <| Qf ?_
  have e := XN h2; subst e
  have e_ : _ = _ := ho2
  subst e_
  exact QF s2.2 (Qh (XK rfl (XK rfl (XK rfl XJ))) (W8 rfl (W8 rfl (W8 rfl (W8 rfl W7)))) W3 rfl (Nat.le_trans hv1 (W1 rfl)) rfl rfl rfl (Wo rfl (Wp rfl rfl (Wn rfl (Wp rfl rfl Wm)))) rfl rfl) h1
  intro o6 h1
  refine Qx <| Q1 <| Q2 <| Q2 <| Q0 <| XR rfl rfl rfl <| XP rfl rfl rfl (Y7 J5 rfl) <| XR rfl rfl rfl <| Q3 <| Q1 <| Qd ?_
  refine QI 4 (fun (o17 : (List (List Int))) => ⟨[(2, .v (.one (.ptr 1 0))), (4, .v (.one (.ptr 3 0)))], [(0, .cells 48 (Q6 a0)), (1, .cells 72 [Wf, .d (.v (.map none))]), (2, .mp (QJ o6.1) o6.2), (3, .cells 72 [Wi 4 o17, .mp 2])], [(4, some ⟨54, 1, (Enc.encL o17).length, []⟩)], 5, 88, []⟩) (fun (o17 : (List (List Int))) => (some (.inl (o17, o6))) = some y5) ?_ ?_
  refine YH (i := 3) (off := 0) 54 1 rfl rfl ?_
  refine Qb h1 (fun o18 hl2 h1 => ?_)
  refine QH (m23o_l3 nn a0 o6) (fun s2 => ⟨[(2, .v (.one (.ptr 1 0))), (4, .v (.one (.ptr 3 0))), (49, .v (.one (.osl 0 0 nn nn))), (50, .v (.one (Wg ((nn : Nat) : Int)))), (51, .v (.one (Wg s2.1)))], [(0, .cells 48 (Q6 a0)), (1, .cells 72 [Wf, .d (.v (.map none))]), (2, .mp (QJ o6.1) o6.2), (3, .cells 72 [Wi 4 s2.2, .mp 2])], [(4, some ⟨54, 1, (Enc.encL s2.2).length, []⟩)], 5, 88, []⟩) (0, ([] : List (List Int))) o18 (Qh (XK rfl (XK rfl (XK rfl (XK rfl (XK rfl XJ))))) (W8 rfl (W8 rfl (W8 rfl (W8 rfl W7)))) (W4 rfl W3) rfl (Nat.le_trans hv1 (W1 rfl)) rfl rfl rfl (Wo rfl (Wp rfl rfl (Wn rfl (Wp rfl rfl Wm)))) rfl rfl) hl2 (fun s2 n2 oo2 h2 ho2 => ?_)
  unfold m23o_l3 at h2
  refine Q2 <| Q0 <| XP rfl rfl rfl (Q4 rfl rfl rfl) <| Q3 <| Q1 <| Q2 ?_
  refine Qg (b := (decide (s2.1 < ((nn : Nat) : Int)))) rfl (fun c19 => ?_) (fun c19 => ?_)
  replace h2 := Qu c19 h2
  refine Qj <| Q1 <| Q2 <| Qd <| Q2 <| Q0 ?_
  refine Qb h2 (fun x20 hx20 h2 => ?_)
  refine QO h2 (fun g21 h2 => ?_)
  refine XP rfl rfl rfl (Jk (α := Dcl) J5 rfl rfl hx20 g21) <| XP rfl rfl rfl (Yq (α := Dcl) (ys := [Wg x20.kind, YK x20.name, Wg x20.params, Wg x20.ty.kind, Wg x20.ty.index, YK x20.ty.name, We x20.ty.levels, We x20.ty.kids, Wg x20.value.kind, Wg x20.value.index, YK x20.value.name, We x20.value.levels, We x20.value.kids, Wg x20.fixed, We x20.ctors, Wg x20.rcr.params, Wg x20.rcr.ty.kind, Wg x20.rcr.ty.index, YK x20.rcr.ty.name, We x20.rcr.ty.levels, We x20.rcr.ty.kids, We x20.rcr.rules, We x20.funs]) J3 rfl rfl hx20 rfl) <| Q9 rfl rfl (W1 rfl) (Ql Z8 rfl) <| QA rfl rfl (Jb (x20 : Dcl) J3 rfl rfl rfl rfl rfl) <| Q3 <| Q1 <| Q2 <| Q0 <| XS rfl rfl rfl <| Q3 <| Q1 <| Q2 <| Q2 <| Q0 ?_
  refine XP rfl rfl rfl (Jj (x20 : Dcl) J3 rfl rfl) ?_
  refine Qb h2 (fun x22 hx22 h2 => ?_)
  refine Q9 rfl rfl (W1 rfl) (Qt (Gh x20 x22 hx22) rfl (.cons (.agg (.cons (.d _) (.cons (.d _) (.cons (.d _) (.cons (.d _) (.cons (.d _) (.cons (.d _) (.cons (.d _) (.cons (.d _) (.cons (.d _) (.cons (.d _) (.cons (.d _) (.cons (.d _) (.cons (.d _) (.cons (.d _) (.cons (.d _) (.cons (.d _) (.cons (.d _) (.cons (.d _) (.cons (.d _) (.cons (.d _) (.cons (.d _) (.cons (.d _) (.cons (.d _) .nil)))))))))))))))))))))))) .nil)) <| XP rfl rfl rfl (Qy (α := Wy) QQ rfl (.d _)) <| XR rfl rfl rfl <| Q3 <| Q1 <| Qd ?_
  refine QI 6 (fun (o23 : (List Int)) => ⟨[(2, .v (.one (.ptr 1 0))), (4, .v (.one (.ptr 3 0))), (13, .v (.one (.apv 6 1 ((Enc.encL o23).length) []))), (49, .v (.one (.osl 0 0 nn nn))), (50, .v (.one (Wg ((nn : Nat) : Int)))), (51, .v (.one (Wg s2.1)))], [(0, .cells 48 (Q6 a0)), (1, .cells 72 [Wf, .d (.v (.map none))]), (2, .mp (QJ o6.1) o6.2), (3, .cells 72 [Wi 4 s2.2, .mp 2]), (5, .cells 48 (Wj x20))], [(4, some ⟨54, 1, (Enc.encL s2.2).length, []⟩), (6, some ⟨3, 1, (Enc.encL o23).length, (Enc.encL o23).flatten⟩)], 7, 88, []⟩) (fun (o23 : (List Int)) => (Option.bind (YZ o23) fun (x24 : List Int) =>
    Option.bind (JM x24 ((Enc.encL o23).length)) fun (x25 : List Int) =>
    Qm (Nat.ble (s2.2.length + ([x25]).length) 1000000000)
    (some (.next ((QW (s2.1 + 1)), (s2.2 ++ ([x25])))))) = some oo2) ?_ ?_
  refine Y0 (t := 13) 3 1 rfl <| ZY (α := Int) (t := 13) rfl rfl ?_
  refine Qb h2 (fun o24 hl3 h2 => ?_)
  refine QH (m23o_l2 x22 o6) (fun s3 => ⟨[(2, .v (.one (.ptr 1 0))), (4, .v (.one (.ptr 3 0))), (13, .v (.one (.apv 6 1 ((Enc.encL s3.1).length) []))), (49, .v (.one (.osl 0 0 nn nn))), (50, .v (.one (Wg ((nn : Nat) : Int)))), (51, .v (.one (Wg s2.1))), (56, .v (.one (We x22))), (57, .v (.one (Wg (x22.length : Int)))), (58, .v (.one (Wg s3.2)))], [(0, .cells 48 (Q6 a0)), (1, .cells 72 [Wf, .d (.v (.map none))]), (2, .mp (QJ o6.1) o6.2), (3, .cells 72 [Wi 4 s2.2, .mp 2]), (5, .cells 48 (Wj x20))], [(4, some ⟨54, 1, (Enc.encL s2.2).length, []⟩), (6, some ⟨3, 1, (Enc.encL s3.1).length, (Enc.encL s3.1).flatten⟩)], 7, 88, []⟩) (([] : List Int), 0) o24 (Qh (XK rfl (XK rfl (XK rfl (XK rfl (XK rfl (XK rfl (XK rfl (XK rfl (XK rfl XJ))))))))) (W8 rfl (W8 rfl (W8 rfl (W8 rfl (W8 rfl W7))))) (W4 rfl (W4 rfl W3)) rfl (Nat.le_trans hv1 (W1 rfl)) rfl rfl rfl (Wo rfl (Wp rfl rfl (Wn rfl (Wp rfl rfl (Wp rfl rfl Wm))))) rfl rfl) hl3 (fun s3 n3 oo3 h3 ho3 => ?_)
  unfold m23o_l2 at h3
  refine Q2 <| Q0 <| XP rfl rfl rfl (Q4 rfl rfl rfl) <| Q3 <| Q1 <| Q2 ?_
  refine Qg (b := (decide (s3.2 < (x22.length : Int)))) rfl (fun c25 => ?_) (fun c25 => ?_)
  replace h3 := Qu c25 h3
  refine Qj <| Q1 <| Q2 <| Qd <| Q2 <| Q0 ?_
  refine Qb h3 (fun x26 hx26 h3 => ?_)
  refine XP rfl rfl rfl (Qq (α := Wy) QQ rfl (.d _) rfl hx26) <| XP rfl rfl rfl (QK Y6 rfl rfl) <| XS rfl rfl rfl <| Q3 <| Q1 <| Q2 <| Q0 <| XP rfl rfl rfl (Q8 JJ rfl) <| XP rfl rfl rfl (Q7 Yw rfl rfl rfl) <| XR rfl rfl rfl <| XP rfl rfl rfl (Jo (M := o6) (k := x26) Yv Yb rfl rfl rfl) <| XR rfl rfl rfl <| XP rfl rfl rfl (Qe rfl rfl) <| XP rfl rfl rfl (Qe rfl rfl) ?_
  refine XS rfl rfl rfl <| XS rfl rfl rfl <| Q3 <| Q1 <| Q2 <| Q2 <| Q0 <| XR rfl rfl rfl <| XP rfl rfl rfl (Jp rfl) <| Q3 <| Q1 ?_
  refine Qg (b := (!(Jr o6 x26))) rfl (fun c27 => ?_) (fun c27 => ?_)
  replace h3 := Qu c27 h3
  refine Q2 <| Q0 <| XP rfl rfl rfl (Y1 YR rfl ) <| QA rfl rfl (Qi J2 rfl rfl rfl rfl (W1 rfl) rfl) <| XS rfl rfl rfl <| Q3 <| Q1 <| Qw ?_
  have e := XN h3; subst e
  have e_ : _ = _ := ho3
  subst e_
  try dsimp only [Sum.elim_inl, Sum.elim_inr] at h2
  have e := XN h2; subst e
  have e_ : _ = _ := ho2
  subst e_
  try dsimp only [Sum.elim_inl, Sum.elim_inr] at h1
  have e := XN h1; subst e
  exact hQ1 _ _ _ (.inr rfl) rfl (show StLe _ _ ⟨[(2, .v (.one (.ptr 1 0))), (3, .v (.one (Wg 9)))], [(0, .cells 48 (Q6 a0)), (1, .cells 72 [Wf, .d (.v (.map none))])], [], 7, 88, []⟩ from (Qh (XK rfl (XK rfl XJ)) (W8 rfl (W8 rfl W7)) W3 rfl (Nat.le_trans hv1 (W1 rfl)) rfl rfl rfl (Wo rfl (Wp rfl rfl Wm)) rfl rfl))
  replace h3 := Qv c27 h3
  refine Qj <| Q1 <| Q0 <| XR rfl rfl rfl <| XR rfl rfl rfl <| Q9 rfl rfl (W1 rfl) (QY (α := Int) ((J7 o6 x26)) JP Xh rfl rfl (W1 rfl) (W1 rfl) rfl rfl (.cons (.d _) .nil) rfl) ?_
  refine QO h3 (fun g28 h3 => ?_)
  refine Q9 rfl rfl (W1 rfl) (Yr (α := Int) (l := s3.1) (l2 := ([(J7 o6 x26)] : List Int)) JP X2 rfl rfl rfl rfl (.app _ _) rfl g28) <| XS rfl rfl rfl <| Q3 <| Qk <| Q1 <| Q0 <| XP rfl rfl rfl (Q4 rfl rfl rfl) <| XR rfl rfl rfl <| Q3 ?_
  have e := XN h3; subst e
  refine QD ((s3.1 ++ ([(J7 o6 x26)])), (QW (s3.2 + 1))) (Qh (XK rfl (XK rfl (XK rfl (XK rfl (XK rfl (XK rfl (XK rfl (XK rfl (XK rfl XJ))))))))) (W8 rfl (W8 rfl (W8 rfl (W8 rfl (W8 rfl W7))))) (W4 rfl (W4 rfl W3)) rfl (Nat.le_trans hv1 (W1 rfl)) rfl rfl rfl (Wo rfl (Wp rfl rfl (Wn rfl (Wp rfl rfl (Wp rfl rfl Wm))))) rfl rfl) ho3
  replace h3 := Qv c25 h3
  refine QN <| Qf <| Qf ?_
  have e := XN h3; subst e
  have e_ : _ = _ := ho3
  subst e_
  exact QF s3.1 (Qh (XK rfl (XK rfl (XK rfl (XK rfl (XK rfl (XK rfl XJ)))))) (W8 rfl (W8 rfl (W8 rfl (W8 rfl (W8 rfl W7))))) (W4 rfl (W4 rfl W3)) rfl (Nat.le_trans hv1 (W1 rfl)) rfl rfl rfl (Wo rfl (Wp rfl rfl (Wn rfl (Wp rfl rfl (Wp rfl rfl Wm))))) rfl rfl) h2
  intro o23 h2
  refine Qx <| Q1 <| Q2 <| Q0 <| XR rfl rfl rfl ?_
  refine Qb h2 (fun x29 hx29 h2 => ?_)
  refine Q9 rfl rfl (W1 rfl) (QS (hp1' := []) (tk1' := [(6, some ⟨3, 1, (Enc.encL o23).length, (Enc.encL x29).flatten⟩)]) (hpF := [(0, .cells 48 (Q6 a0)), (1, .cells 72 [Wf, .d (.v (.map none))]), (2, .mp (QJ o6.1) o6.2), (3, .cells 72 [Wi 4 s2.2, .mp 2]), (5, .cells 48 (Wj x20))]) (tkF := [(4, some ⟨54, 1, (Enc.encL s2.2).length, []⟩)]) (res2 := Qr []) (nx2 := 7) [6] rfl rfl (ZJ o23 x29 hx29) rfl rfl XT rfl rfl Wa (W6 rfl W5) (W8 rfl (W8 rfl (W8 rfl (W8 rfl (W8 rfl W7))))) (W4 rfl W3) rfl rfl rfl rfl rfl Wm rfl rfl rfl rfl) <| Q3 <| Q1 ?_
  refine JZ [3, 5, 7] [(0, 1), (1, 1)] mixed (by kernel_rfl) (by kernel_rfl) (by kernel_rfl) ?_
  refine RunA.rd rfl rfl rfl (Q5 (Q8 JA rfl)) rfl <| RunA.rd rfl rfl rfl (Q5 (Q7 JV rfl rfl rfl)) rfl <| RunA.rd rfl rfl rfl (Q5 (QV rfl)) rfl ?_
  refine Qb h2 (fun x30 hx30 h2 => ?_)
  refine RunA.eff rfl rfl rfl (QS (hp1' := []) (tk1' := [(7, some ⟨3, 1, (Enc.encL x30).length, []⟩)]) (hpF := [(0, .cells 48 (Q6 a0)), (1, .cells 72 [Wf, .d (.v (.map none))]), (2, .mp (QJ o6.1) o6.2), (3, .cells 72 [Wi 4 s2.2, .mp 2]), (5, .cells 48 (Wj x20))]) (tkF := [(4, some ⟨54, 1, (Enc.encL s2.2).length, []⟩)]) (res2 := Qr [.one (Wi 7 x30)]) (nx2 := 8) [6] rfl rfl (YE x29 ((Enc.encL o23).length) x30 hx30) rfl rfl XT rfl rfl Wa (W6 rfl W5) (W8 rfl (W8 rfl (W8 rfl (W8 rfl (W8 rfl W7))))) (W4 rfl W3) rfl rfl rfl rfl rfl Wm rfl rfl rfl rfl) rfl <| RunA.rd rfl rfl rfl (JX (α := List Int) (x30) Y3 X6 rfl rfl (W1 rfl) rfl rfl (.cons (.app _ _ _) .nil) rfl) rfl ?_
  refine QO h2 (fun g31 h2 => ?_)
  refine RunA.eff rfl rfl rfl (QU (α := List Int) Y3 GL rfl rfl rfl rfl rfl (.d _) g31) rfl <| RunA.rd rfl rfl rfl (Q5 (Q8 JA rfl)) rfl <| RunA.eff rfl rfl rfl (Qi JV rfl rfl rfl rfl (W1 rfl) rfl) rfl ?_
  refine RunA.nil ⟨?ex, _, _, rfl, ?_⟩
  case ex => exact ⟨⟨_, rfl, _, _, rfl, rfl, rfl, .inl ⟨rfl, _, Q5 (Q8 JA rfl), rfl⟩⟩, ⟨_, rfl, _, _, rfl, rfl, rfl, .inl ⟨rfl, _, Q5 (Q7 JV rfl rfl rfl), rfl⟩⟩, trivial⟩
  refine JT (st' := ⟨[(2, .v (.one (.ptr 1 0))), (4, .v (.one (.ptr 3 0))), (49, .v (.one (.osl 0 0 nn nn))), (50, .v (.one (Wg ((nn : Nat) : Int)))), (51, .v (.one (Wg s2.1)))], [(0, .cells 48 (Q6 a0)), (1, .cells 72 [Wf, .d (.v (.map none))]), (2, .mp (QJ o6.1) o6.2), (3, .cells 72 [Wi 4 ((s2.2 ++ ([x30])) : List (List Int)), .mp 2]), (5, .cells 48 (Wj x20))], [(4, some ⟨54, 1, (Enc.encL ((s2.2 ++ ([x30])) : List (List Int))).length, []⟩), (7, some ⟨3, 1, (Enc.encL x30).length, []⟩)], 8, 88, []⟩) (Qh (XK rfl (XK rfl (XK rfl (XK rfl (XK rfl XJ))))) (W8 rfl (W8 rfl (W8 rfl (W8 rfl (W8 rfl W7))))) (W4 rfl (W4 rfl W3)) rfl (Nat.le_trans hv1 (W1 rfl)) rfl rfl rfl (Wo rfl (Wp rfl rfl (Wn rfl (Wp rfl rfl (Wp rfl rfl Wm))))) rfl rfl) <| Qk <| Q1 <| Q0 <| XP rfl rfl rfl (Q4 rfl rfl rfl) <| XR rfl rfl rfl <| Q3 ?_
  have e := XN h2; subst e
  refine QD ((QW (s2.1 + 1)), (s2.2 ++ ([x30]))) (Qh (XK rfl (XK rfl (XK rfl (XK rfl (XK rfl XJ))))) (W8 rfl (W8 rfl (W8 rfl (W8 rfl W7)))) (W4 rfl W3) rfl (Nat.le_trans hv1 (W1 rfl)) rfl rfl rfl (Wo rfl (Wp rfl rfl (Wn rfl (Wp rfl rfl Wm)))) rfl rfl) ho2
  replace h2 := Qv c19 h2
  refine QN <| Qf <| Qf ?_
  have e := XN h2; subst e
  have e_ : _ = _ := ho2
  subst e_
  exact QF s2.2 (Qh (XK rfl (XK rfl XJ)) (W8 rfl (W8 rfl (W8 rfl (W8 rfl W7)))) (W4 rfl W3) rfl (Nat.le_trans hv1 (W1 rfl)) rfl rfl rfl (Wo rfl (Wp rfl rfl (Wn rfl (Wp rfl rfl Wm)))) rfl rfl) h1
  intro o17 h1
  refine Qx <| Q1 <| Q2 <| Q0 <| XP rfl rfl rfl (Qz J2 rfl rfl rfl rfl) <| QA rfl rfl (Qi J2 rfl rfl rfl rfl (W1 rfl) rfl) <| XS rfl rfl rfl <| Q3 <| Q1 <| Qw ?_
  have e := XN h1; subst e
  exact hQ1 _ _ _ (.inr rfl) rfl (show StLe _ _ ⟨[(2, .v (.one (.ptr 1 0))), (3, .v (.one (Wg 0)))], [(0, .cells 48 (Q6 a0)), (1, .cells 72 [Wi 4 o17, .mp 2]), (2, .mp (QJ o6.1) o6.2)], [(4, some ⟨54, 1, (Enc.encL o17).length, []⟩)], 5, 88, []⟩ from (Qh (XK rfl (XK rfl XJ)) (W8 rfl (W8 rfl (W8 rfl W7))) (W4 rfl W3) rfl (Nat.le_trans hv1 (W1 rfl)) rfl rfl rfl (Wo rfl (Wp rfl rfl (Wn rfl Wm))) rfl rfl))
 refine KA (C := fun q_ => CallM Try.prog 34 [.one (.osl 0 0 nn nn)] ⟨[(0, .cells 48 (Q6 a0))], [], 1⟩ (Qr (((Sum.elim (fun (y1 : (List (List Int)) × (Qc Wy Int)) => ([.agg [Wi 4 y1.1, .mp 2], .one (Wg 0)] : List AV)) (Sum.elim (fun (y2 : Unit) => ([.agg [Wf, .d (.v (.map none))], .one (Wg 8)] : List AV)) (fun (y3 : Unit) => ([.agg [Wf, .d (.v (.map none))], .one (Wg 9)] : List AV))))) q_)) ⟨(((Sum.elim (fun (y1 : (List (List Int)) × (Qc Wy Int)) => (⟨[(2, .v (.one (.ptr 1 0))), (3, .v (.one (Wg 0)))], [(0, .cells 48 (Q6 a0)), (1, .cells 72 [Wi 4 y1.1, .mp 2]), (2, .mp (QJ y1.2.1) y1.2.2)], [(4, some ⟨54, 1, (Enc.encL y1.1).length, []⟩)], 5, 88, []⟩ : St)) (Sum.elim (fun (y2 : Unit) => (⟨[(2, .v (.one (.ptr 1 0))), (3, .v (.one (Wg 8)))], [(0, .cells 48 (Q6 a0)), (1, .cells 72 [Wf, .d (.v (.map none))])], [], 5, 88, []⟩ : St)) (fun (y3 : Unit) => (⟨[(2, .v (.one (.ptr 1 0))), (3, .v (.one (Wg 9)))], [(0, .cells 48 (Q6 a0)), (1, .cells 72 [Wf, .d (.v (.map none))])], [], 7, 88, []⟩ : St))))) q_).hp, (((Sum.elim (fun (y1 : (List (List Int)) × (Qc Wy Int)) => (⟨[(2, .v (.one (.ptr 1 0))), (3, .v (.one (Wg 0)))], [(0, .cells 48 (Q6 a0)), (1, .cells 72 [Wi 4 y1.1, .mp 2]), (2, .mp (QJ y1.2.1) y1.2.2)], [(4, some ⟨54, 1, (Enc.encL y1.1).length, []⟩)], 5, 88, []⟩ : St)) (Sum.elim (fun (y2 : Unit) => (⟨[(2, .v (.one (.ptr 1 0))), (3, .v (.one (Wg 8)))], [(0, .cells 48 (Q6 a0)), (1, .cells 72 [Wf, .d (.v (.map none))])], [], 5, 88, []⟩ : St)) (fun (y3 : Unit) => (⟨[(2, .v (.one (.ptr 1 0))), (3, .v (.one (Wg 9)))], [(0, .cells 48 (Q6 a0)), (1, .cells 72 [Wf, .d (.v (.map none))])], [], 7, 88, []⟩ : St))))) q_).tk, (((Sum.elim (fun (y1 : (List (List Int)) × (Qc Wy Int)) => (⟨[(2, .v (.one (.ptr 1 0))), (3, .v (.one (Wg 0)))], [(0, .cells 48 (Q6 a0)), (1, .cells 72 [Wi 4 y1.1, .mp 2]), (2, .mp (QJ y1.2.1) y1.2.2)], [(4, some ⟨54, 1, (Enc.encL y1.1).length, []⟩)], 5, 88, []⟩ : St)) (Sum.elim (fun (y2 : Unit) => (⟨[(2, .v (.one (.ptr 1 0))), (3, .v (.one (Wg 8)))], [(0, .cells 48 (Q6 a0)), (1, .cells 72 [Wf, .d (.v (.map none))])], [], 5, 88, []⟩ : St)) (fun (y3 : Unit) => (⟨[(2, .v (.one (.ptr 1 0))), (3, .v (.one (Wg 9)))], [(0, .cells 48 (Q6 a0)), (1, .cells 72 [Wf, .d (.v (.map none))])], [], 7, 88, []⟩ : St))))) q_).nx⟩) hc4 h0 (fun y1 hc4 h0 => ?_) (fun z_ hc4 h0 => KA (C := fun q_ => CallM Try.prog 34 [.one (.osl 0 0 nn nn)] ⟨[(0, .cells 48 (Q6 a0))], [], 1⟩ (Qr (((Sum.elim (fun (y1 : (List (List Int)) × (Qc Wy Int)) => ([.agg [Wi 4 y1.1, .mp 2], .one (Wg 0)] : List AV)) (Sum.elim (fun (y2 : Unit) => ([.agg [Wf, .d (.v (.map none))], .one (Wg 8)] : List AV)) (fun (y3 : Unit) => ([.agg [Wf, .d (.v (.map none))], .one (Wg 9)] : List AV))))) (.inr q_))) ⟨(((Sum.elim (fun (y1 : (List (List Int)) × (Qc Wy Int)) => (⟨[(2, .v (.one (.ptr 1 0))), (3, .v (.one (Wg 0)))], [(0, .cells 48 (Q6 a0)), (1, .cells 72 [Wi 4 y1.1, .mp 2]), (2, .mp (QJ y1.2.1) y1.2.2)], [(4, some ⟨54, 1, (Enc.encL y1.1).length, []⟩)], 5, 88, []⟩ : St)) (Sum.elim (fun (y2 : Unit) => (⟨[(2, .v (.one (.ptr 1 0))), (3, .v (.one (Wg 8)))], [(0, .cells 48 (Q6 a0)), (1, .cells 72 [Wf, .d (.v (.map none))])], [], 5, 88, []⟩ : St)) (fun (y3 : Unit) => (⟨[(2, .v (.one (.ptr 1 0))), (3, .v (.one (Wg 9)))], [(0, .cells 48 (Q6 a0)), (1, .cells 72 [Wf, .d (.v (.map none))])], [], 7, 88, []⟩ : St))))) (.inr q_)).hp, (((Sum.elim (fun (y1 : (List (List Int)) × (Qc Wy Int)) => (⟨[(2, .v (.one (.ptr 1 0))), (3, .v (.one (Wg 0)))], [(0, .cells 48 (Q6 a0)), (1, .cells 72 [Wi 4 y1.1, .mp 2]), (2, .mp (QJ y1.2.1) y1.2.2)], [(4, some ⟨54, 1, (Enc.encL y1.1).length, []⟩)], 5, 88, []⟩ : St)) (Sum.elim (fun (y2 : Unit) => (⟨[(2, .v (.one (.ptr 1 0))), (3, .v (.one (Wg 8)))], [(0, .cells 48 (Q6 a0)), (1, .cells 72 [Wf, .d (.v (.map none))])], [], 5, 88, []⟩ : St)) (fun (y3 : Unit) => (⟨[(2, .v (.one (.ptr 1 0))), (3, .v (.one (Wg 9)))], [(0, .cells 48 (Q6 a0)), (1, .cells 72 [Wf, .d (.v (.map none))])], [], 7, 88, []⟩ : St))))) (.inr q_)).tk, (((Sum.elim (fun (y1 : (List (List Int)) × (Qc Wy Int)) => (⟨[(2, .v (.one (.ptr 1 0))), (3, .v (.one (Wg 0)))], [(0, .cells 48 (Q6 a0)), (1, .cells 72 [Wi 4 y1.1, .mp 2]), (2, .mp (QJ y1.2.1) y1.2.2)], [(4, some ⟨54, 1, (Enc.encL y1.1).length, []⟩)], 5, 88, []⟩ : St)) (Sum.elim (fun (y2 : Unit) => (⟨[(2, .v (.one (.ptr 1 0))), (3, .v (.one (Wg 8)))], [(0, .cells 48 (Q6 a0)), (1, .cells 72 [Wf, .d (.v (.map none))])], [], 5, 88, []⟩ : St)) (fun (y3 : Unit) => (⟨[(2, .v (.one (.ptr 1 0))), (3, .v (.one (Wg 9)))], [(0, .cells 48 (Q6 a0)), (1, .cells 72 [Wf, .d (.v (.map none))])], [], 7, 88, []⟩ : St))))) (.inr q_)).nx⟩) hc4 h0 (fun y2 hc4 h0 => ?_) (fun y3 hc4 h0 => ?_))
 replace hc4 : CallM Try.prog 34 [.one (.osl 0 0 nn nn)] ⟨[(0, .cells 48 (Q6 a0))], [], 1⟩ (Qr [.agg [Wi 4 y1.1, .mp 2], .one (Wg 0)]) ⟨[(0, .cells 48 (Q6 a0)), (1, .cells 72 [Wi 4 y1.1, .mp 2]), (2, .mp (QJ y1.2.1) y1.2.2)], [(4, some ⟨54, 1, (Enc.encL y1.1).length, []⟩)], 5⟩ := hc4
 refine Q9 rfl rfl (W1 rfl) (QP rfl rfl rfl hc4 rfl (W8 rfl W7) W3) <| XR rfl rfl rfl <| XP rfl rfl rfl (Qe rfl rfl) <| XP rfl rfl rfl (Qe rfl rfl) <| Q9 rfl rfl (W1 rfl) (Ql YJ rfl) <| QA rfl rfl (Qi J2 rfl rfl rfl rfl (W1 rfl) rfl) <| XS rfl rfl rfl <| Q3 <| Q1 <| Q2 <| Q0 <| XP rfl rfl rfl (Q8 JA rfl) <| XP rfl rfl rfl (Q7 JV rfl rfl rfl) <| XR rfl rfl rfl ?_
 refine XS rfl rfl rfl <| XS rfl rfl rfl <| Q3 <| Q1 <| Qw ?_
 have e := XN h0; subst e
 exact hQ0 _ _ _ (.inr rfl) rfl (Qh (XM rfl (.sub (.app _ _ _)) (XK rfl XJ)) (W8 rfl W7) W3 rfl (Nat.le_trans hv0 (W1 rfl)) rfl rfl rfl (Wo rfl Wm) rfl rfl)
 replace hc4 : CallM Try.prog 34 [.one (.osl 0 0 nn nn)] ⟨[(0, .cells 48 (Q6 a0))], [], 1⟩ (Qr [.agg [Wf, .d (.v (.map none))], .one (Wg 8)]) ⟨[(0, .cells 48 (Q6 a0)), (1, .cells 72 [Wf, .d (.v (.map none))])], [], 5⟩ := hc4
 refine Q9 rfl rfl (W1 rfl) (QP rfl rfl rfl hc4 rfl (W8 rfl W7) W3) <| XR rfl rfl rfl <| XP rfl rfl rfl (Qe rfl rfl) <| XP rfl rfl rfl (Qe rfl rfl) <| Q9 rfl rfl (W1 rfl) (Ql YJ rfl) <| QA rfl rfl (Qi J2 rfl rfl rfl rfl (W1 rfl) rfl) <| XS rfl rfl rfl <| Q3 <| Q1 <| Q2 <| Q0 <| XP rfl rfl rfl (Q8 JA rfl) <| XP rfl rfl rfl (Q7 JV rfl rfl rfl) <| XR rfl rfl rfl ?_
 refine XS rfl rfl rfl <| XS rfl rfl rfl <| Q3 <| Q1 <| Qw ?_
 have e := XN h0; subst e
 exact hQ0 _ _ _ (.inr rfl) rfl (Qh (XM rfl (.sub (.nil _)) (XK rfl XJ)) (W8 rfl W7) W3 rfl (Nat.le_trans hv0 (W1 rfl)) rfl rfl rfl (Wo rfl Wm) rfl rfl)
 replace hc4 : CallM Try.prog 34 [.one (.osl 0 0 nn nn)] ⟨[(0, .cells 48 (Q6 a0))], [], 1⟩ (Qr [.agg [Wf, .d (.v (.map none))], .one (Wg 9)]) ⟨[(0, .cells 48 (Q6 a0)), (1, .cells 72 [Wf, .d (.v (.map none))])], [], 7⟩ := hc4
 refine Q9 rfl rfl (W1 rfl) (QP rfl rfl rfl hc4 rfl (W8 rfl W7) W3) <| XR rfl rfl rfl <| XP rfl rfl rfl (Qe rfl rfl) <| XP rfl rfl rfl (Qe rfl rfl) <| Q9 rfl rfl (W1 rfl) (Ql YJ rfl) <| QA rfl rfl (Qi J2 rfl rfl rfl rfl (W1 rfl) rfl) <| XS rfl rfl rfl <| Q3 <| Q1 <| Q2 <| Q0 <| XP rfl rfl rfl (Q8 JA rfl) <| XP rfl rfl rfl (Q7 JV rfl rfl rfl) <| XR rfl rfl rfl ?_
 refine XS rfl rfl rfl <| XS rfl rfl rfl <| Q3 <| Q1 <| Qw ?_
 have e := XN h0; subst e
 exact hQ0 _ _ _ (.inr rfl) rfl (Qh (XM rfl (.sub (.nil _)) (XK rfl XJ)) (W8 rfl W7) W3 rfl (Nat.le_trans hv0 (W1 rfl)) rfl rfl rfl (Wo rfl Wm) rfl rfl)
end Go.Proofs.Ytijcchddnnnmdaa
namespace Go.Proofs.Ytijcchddnnnmdaa
open Go.RowKit Go.Shelf
set_option linter.unusedSimpArgs false
set_option linter.unusedVariables false
def m22o_l0 (x10 : (List Wy)) (s2 : Int × (Qc Wy Int)) (s3 : Int × (Qc Wy Int)) : Option (LO (Int × (Qc Wy Int)) (((Qc Wy Int)) ⊕ (((List (List Int)) × (Qc Wy Int)) ⊕ Unit ⊕ Unit))) :=
 cond (decide (s3.1 < (x10.length : Int)))
   (Option.bind (J1 x10 s3.1) fun (x13 : Wy) =>
 cond (Jr s3.2 x13)
   (some (.done (.inr (.inr (.inl ())))))
   (some (.next ((QW (s3.1 + 1)), (JR s3.2 x13 s2.1)))))
   (some (.done (.inl s3.2)))
def m22o_l1 (nn : Nat) (a0 : List Dcl) (s2 : Int × (Qc Wy Int)) : Option (LO (Int × (Qc Wy Int)) (((Qc Wy Int)) ⊕ (((List (List Int)) × (Qc Wy Int)) ⊕ Unit ⊕ Unit))) :=
 cond (decide (s2.1 < ((nn : Nat) : Int)))
   (Option.bind (J1 a0 s2.1) fun (x8 : Dcl) =>
 Qm (Nat.beq a0.length nn)
 (Option.bind (X8 x8) fun (x10 : (List Wy)) =>
 Option.bind (Qo (m22o_l0 x10 s2) QB (0, s2.2)) (Sum.elim (fun (o11 : (Qc Wy Int)) => some (.next ((QW (s2.1 + 1)), o11))) (fun o => some (.done (.inr o))))))
   (some (.done (.inl s2.2)))
def m22o_l2 (x11 : (List Wy)) (o6 : (Qc Wy Int)) (s3 : (List Int) × Int) : Option (LO ((List Int) × Int) (((List Int)) ⊕ (((List (List Int)) × (Qc Wy Int)) ⊕ Unit ⊕ Unit))) :=
 cond (decide (s3.2 < (x11.length : Int)))
   (Option.bind (J1 x11 s3.2) fun (x14 : Wy) =>
 cond (!(Jr o6 x14))
   (some (.done (.inr (.inr (.inr ())))))
   (Qm (Nat.ble (s3.1.length + ([(J7 o6 x14)]).length) 1000000000)
 (some (.next ((s3.1 ++ ([(J7 o6 x14)])), (QW (s3.2 + 1)))))))
   (some (.done (.inl s3.1)))
def m22o_l3 (nn : Nat) (a0 : List Dcl) (o6 : (Qc Wy Int)) (s2 : Int × (List (List Int))) : Option (LO (Int × (List (List Int))) (((List (List Int))) ⊕ (((List (List Int)) × (Qc Wy Int)) ⊕ Unit ⊕ Unit))) :=
 cond (decide (s2.1 < ((nn : Nat) : Int)))
   (Option.bind (J1 a0 s2.1) fun (x9 : Dcl) =>
 Qm (Nat.beq a0.length nn)
 (Option.bind (Xe x9) fun (x11 : (List Wy)) =>
 Option.bind (Qo (m22o_l2 x11 o6) QB (([] : List Int), 0)) (Sum.elim (fun (o12 : (List Int)) => Option.bind (YZ o12) fun (x13 : List Int) =>
 Option.bind (JM x13 ((Enc.encL o12).length)) fun (x14 : List Int) =>
 Qm (Nat.ble (s2.2.length + ([x14]).length) 1000000000)
 (some (.next ((QW (s2.1 + 1)), (s2.2 ++ ([x14])))))) (fun o => some (.done (.inr o))))))
   (some (.done (.inl s2.2)))
def m22o_l4 (y1 : (List (List Int)) × (Qc Wy Int)) (s1 : (List Int) × (List Bool)) (nn : Nat) (s2 : Int) : Option (LO Int Int) :=
 cond (decide (s2 < (y1.1.length : Int)))
   (Option.bind (J1 y1.1 s2) fun (x37 : List Int) =>
 Option.bind (Option.bind (J1 s1.2 s2) fun (x39 : Bool) =>
 Qm (Nat.beq s1.2.length (((nn : Nat) : Int).toNat))
 (cond (!x39)
   (Option.bind (m43f5 x37 (((nn : Nat) : Int).toNat) s1.2) fun (x42 : Bool) =>
 some (!x42))
   (some false))) (fun (v38 : Bool) => cond v38
   (some (.done s2))
   (some (.next (QW (s2 + 1))))))
   (some (.done (-1)))
def m22o_l5 (nn : Nat) (y1 : (List (List Int)) × (Qc Wy Int)) (s1 : (List Int) × (List Bool)) : Option (LO ((List Int) × (List Bool)) (((List Int) × (List Bool)) ⊕ (((List Int) × Int)))) :=
 cond (decide ((s1.1.length : Int) < ((nn : Nat) : Int)))
   (Option.bind (Qo (m22o_l4 y1 s1 nn) QB 0) (fun (o35 : Int) => cond (decide (o35 < 0))
   (some (.done (.inr (([] : List Int), 22))))
   (Option.bind (J1 s1.2 o35) fun (x37 : Bool) =>
 Qm (Nat.beq s1.2.length (((nn : Nat) : Int).toNat))
 (Qm (Nat.ble (s1.1.length + ([o35]).length) 1000000000)
 (some (.next ((s1.1 ++ ([o35])), (s1.2.set o35.toNat true))))))))
   (some (.done (.inl (s1.1, s1.2))))
def m22o (a0 : List Dcl) (nn : Nat) : Option ((List Int) × Int) :=
 Option.bind (Option.bind (Qo (m22o_l1 nn a0) QB (0, gmNil)) (Sum.elim (fun (o6 : (Qc Wy Int)) => Option.bind (Qo (m22o_l3 nn a0 o6) QB (0, ([] : List (List Int)))) (Sum.elim (fun (o7 : (List (List Int))) => some (.inl (o7, o6))) (fun o => some o))) (fun o => some o))) (Sum.elim (fun (y1 : (List (List Int)) × (Qc Wy Int)) => Qm (cond (decide (0 ≤ ((nn : Nat) : Int))) (Nat.ble (1 * ((nn : Nat) : Int).toNat) 281474976710656) false)
 (Option.bind (Qo (m22o_l5 nn y1) QB (([] : List Int), (List.replicate ((nn : Nat) : Int).toNat false))) (Sum.elim (fun (o33 : (List Int) × (List Bool)) => some (o33.1, 0)) (fun o => some o)))) (Sum.elim (fun (y2 : Unit) => some (([] : List Int), 8)) (fun (y3 : Unit) => some (([] : List Int), 9))))
set_option maxRecDepth 100000 in
set_option maxHeartbeats 2000000 in
theorem m22o_ok (a0 : List Dcl) (nn : Nat) (r : (List Int) × Int) (h0 : m22o a0 nn = some r) : CallM Try.prog 22 [.one (.osl 0 0 nn nn)] ⟨[(0, .cells 48 (Q6 a0))], [], 1⟩ (Qr [.one (We r.1), .one (Wg r.2)]) ⟨[(0, .cells 48 (Q6 a0))], [], 6⟩ := by
 unfold m22o at h0
 refine QM ⟨[(2, .v (.one (We r.1))), (3, .v (.one (Wg r.2)))], [(0, .cells 48 (Q6 a0))], [], 6, 58, []⟩ rfl rfl en_22 (W1 rfl) rfl (Qp rfl (Qp rfl .nil)) (fun w0 M V0 Q hv0 hQ0 => ?_)
 simp only [Jc]
 refine Q2 <| Q0 <| XS rfl rfl rfl <| XS rfl rfl rfl <| Q3 <| Q1 <| Q2 <| Q0 <| XR rfl rfl rfl ?_
 refine Qb h0 (fun y5 h1 h0 => ?_)
 have hc4 : CallM Try.prog 34 [.one (.osl 0 0 nn nn)] ⟨[(0, .cells 48 (Q6 a0))], [], 1⟩ (Qr (((Sum.elim (fun (y1 : (List (List Int)) × (Qc Wy Int)) => ([.agg [Wi 4 y1.1, .mp 2], .one (Wg 0)] : List AV)) (Sum.elim (fun (y2 : Unit) => ([.agg [Wf, .d (.v (.map none))], .one (Wg 8)] : List AV)) (fun (y3 : Unit) => ([.agg [Wf, .d (.v (.map none))], .one (Wg 9)] : List AV))))) y5)) ⟨(((Sum.elim (fun (y1 : (List (List Int)) × (Qc Wy Int)) => (⟨[(2, .v (.one (.ptr 1 0))), (3, .v (.one (Wg 0)))], [(0, .cells 48 (Q6 a0)), (1, .cells 72 [Wi 4 y1.1, .mp 2]), (2, .mp (QJ y1.2.1) y1.2.2)], [(4, some ⟨54, 1, (Enc.encL y1.1).length, []⟩)], 5, 88, []⟩ : St)) (Sum.elim (fun (y2 : Unit) => (⟨[(2, .v (.one (.ptr 1 0))), (3, .v (.one (Wg 8)))], [(0, .cells 48 (Q6 a0)), (1, .cells 72 [Wf, .d (.v (.map none))])], [], 5, 88, []⟩ : St)) (fun (y3 : Unit) => (⟨[(2, .v (.one (.ptr 1 0))), (3, .v (.one (Wg 9)))], [(0, .cells 48 (Q6 a0)), (1, .cells 72 [Wf, .d (.v (.map none))])], [], 7, 88, []⟩ : St))))) y5).hp, (((Sum.elim (fun (y1 : (List (List Int)) × (Qc Wy Int)) => (⟨[(2, .v (.one (.ptr 1 0))), (3, .v (.one (Wg 0)))], [(0, .cells 48 (Q6 a0)), (1, .cells 72 [Wi 4 y1.1, .mp 2]), (2, .mp (QJ y1.2.1) y1.2.2)], [(4, some ⟨54, 1, (Enc.encL y1.1).length, []⟩)], 5, 88, []⟩ : St)) (Sum.elim (fun (y2 : Unit) => (⟨[(2, .v (.one (.ptr 1 0))), (3, .v (.one (Wg 8)))], [(0, .cells 48 (Q6 a0)), (1, .cells 72 [Wf, .d (.v (.map none))])], [], 5, 88, []⟩ : St)) (fun (y3 : Unit) => (⟨[(2, .v (.one (.ptr 1 0))), (3, .v (.one (Wg 9)))], [(0, .cells 48 (Q6 a0)), (1, .cells 72 [Wf, .d (.v (.map none))])], [], 7, 88, []⟩ : St))))) y5).tk, (((Sum.elim (fun (y1 : (List (List Int)) × (Qc Wy Int)) => (⟨[(2, .v (.one (.ptr 1 0))), (3, .v (.one (Wg 0)))], [(0, .cells 48 (Q6 a0)), (1, .cells 72 [Wi 4 y1.1, .mp 2]), (2, .mp (QJ y1.2.1) y1.2.2)], [(4, some ⟨54, 1, (Enc.encL y1.1).length, []⟩)], 5, 88, []⟩ : St)) (Sum.elim (fun (y2 : Unit) => (⟨[(2, .v (.one (.ptr 1 0))), (3, .v (.one (Wg 8)))], [(0, .cells 48 (Q6 a0)), (1, .cells 72 [Wf, .d (.v (.map none))])], [], 5, 88, []⟩ : St)) (fun (y3 : Unit) => (⟨[(2, .v (.one (.ptr 1 0))), (3, .v (.one (Wg 9)))], [(0, .cells 48 (Q6 a0)), (1, .cells 72 [Wf, .d (.v (.map none))])], [], 7, 88, []⟩ : St))))) y5).nx⟩ := by
  refine JC y5 ((Sum.elim (fun (y1 : (List (List Int)) × (Qc Wy Int)) => (⟨[(2, .v (.one (.ptr 1 0))), (3, .v (.one (Wg 0)))], [(0, .cells 48 (Q6 a0)), (1, .cells 72 [Wi 4 y1.1, .mp 2]), (2, .mp (QJ y1.2.1) y1.2.2)], [(4, some ⟨54, 1, (Enc.encL y1.1).length, []⟩)], 5, 88, []⟩ : St)) (Sum.elim (fun (y2 : Unit) => (⟨[(2, .v (.one (.ptr 1 0))), (3, .v (.one (Wg 8)))], [(0, .cells 48 (Q6 a0)), (1, .cells 72 [Wf, .d (.v (.map none))])], [], 5, 88, []⟩ : St)) (fun (y3 : Unit) => (⟨[(2, .v (.one (.ptr 1 0))), (3, .v (.one (Wg 9)))], [(0, .cells 48 (Q6 a0)), (1, .cells 72 [Wf, .d (.v (.map none))])], [], 7, 88, []⟩ : St))))) ((Sum.elim (fun (y1 : (List (List Int)) × (Qc Wy Int)) => ([.agg [Wi 4 y1.1, .mp 2], .one (Wg 0)] : List AV)) (Sum.elim (fun (y2 : Unit) => ([.agg [Wf, .d (.v (.map none))], .one (Wg 8)] : List AV)) (fun (y3 : Unit) => ([.agg [Wf, .d (.v (.map none))], .one (Wg 9)] : List AV))))) rfl rfl GR (W1 rfl) (fun z_ => by cases z_ with
    | inl _ => rfl
    | inr z_ => exact (by cases z_ <;> rfl)) (fun z_ => by cases z_ with
    | inl _ => exact (JU J2 rfl rfl rfl rfl (Qp rfl .nil))
    | inr z_ => exact (by cases z_ with
    | inl _ => exact (JU J2 rfl rfl rfl rfl (Qp rfl .nil))
    | inr _ => exact (JU J2 rfl rfl rfl rfl (Qp rfl .nil)))) (fun w0 M V0 Q hv1 hQ1 => ?_)
  simp only [Jc]
  refine Q2 <| Q0 <| Q9 rfl rfl (W1 rfl) (Ql YJ rfl) <| XS rfl rfl rfl <| Q3 <| Q1 <| Q2 <| Q0 <| Q9 rfl rfl (W1 rfl) (JW Wy Int) <| XP rfl rfl rfl (YX YR rfl rfl rfl) <| Q9 rfl rfl (W1 rfl) (Ql YJ rfl) <| QA rfl rfl (Qi J2 rfl rfl rfl rfl (W1 rfl) rfl) <| Q3 <| Q1 ?_
  refine Q2 <| Q2 <| Q0 <| XR rfl rfl rfl <| XP rfl rfl rfl (Y7 J5 rfl) <| XR rfl rfl rfl <| Q3 <| Q1 <| Qd ?_
  refine QI 0 (fun (o6 : (Qc Wy Int)) => ⟨[(0, .v (.one (.osl 0 0 nn nn))), (2, .v (.one (.ptr 1 0))), (4, .v (.one (.ptr 3 0)))], [(0, .cells 48 (Q6 a0)), (1, .cells 72 [Wf, .d (.v (.map none))]), (2, .mp (QJ o6.1) o6.2), (3, .cells 72 [Wf, .mp 2])], [], 4, 88, []⟩) (fun (o6 : (Qc Wy Int)) => (Option.bind (Qo (m22o_l3 nn a0 o6) QB (0, ([] : List (List Int)))) (Sum.elim (fun (o7 : (List (List Int))) => some (.inl (o7, o6))) (fun o => some o))) = some y5) ?_ ?_
  refine Qb h1 (fun o7 hl2 h1 => ?_)
  refine QH (m22o_l1 nn a0) (fun s2 => ⟨[(0, .v (.one (.osl 0 0 nn nn))), (2, .v (.one (.ptr 1 0))), (4, .v (.one (.ptr 3 0))), (20, .v (.one (.osl 0 0 nn nn))), (21, .v (.one (Wg ((nn : Nat) : Int)))), (22, .v (.one (Wg s2.1)))], [(0, .cells 48 (Q6 a0)), (1, .cells 72 [Wf, .d (.v (.map none))]), (2, .mp (QJ s2.2.1) s2.2.2), (3, .cells 72 [Wf, .mp 2])], [], 4, 88, []⟩) (0, gmNil) o7 (Qh (XK rfl (XK rfl (XK rfl (XK rfl (XK rfl (XK rfl XJ)))))) (W8 rfl (W8 rfl (W8 rfl (W8 rfl W7)))) W3 rfl (Nat.le_trans hv1 (W1 rfl)) rfl rfl rfl (Wo rfl (Wp rfl rfl (Wn rfl (Wp rfl rfl Wm)))) rfl rfl) hl2 (fun s2 n2 oo2 h2 ho2 => ?_)
  unfold m22o_l1 at h2
  refine Q2 <| Q0 <| XP rfl rfl rfl (Q4 rfl rfl rfl) <| Q3 <| Q1 <| Q2 ?_
  refine Qg (b := (decide (s2.1 < ((nn : Nat) : Int)))) rfl (fun c8 => ?_) (fun c8 => ?_)
  replace h2 := Qu c8 h2
  refine Qj <| Q1 <| Q2 <| Qd <| Q2 <| Q0 <| XR rfl rfl rfl ?_
  refine Qb h2 (fun x9 hx9 h2 => ?_)
  refine QO h2 (fun g10 h2 => ?_)
  refine XP rfl rfl rfl (Jk (α := Dcl) J5 rfl rfl hx9 g10) <| XP rfl rfl rfl (Yq (α := Dcl) (ys := [Wg x9.kind, YK x9.name, Wg x9.params, Wg x9.ty.kind, Wg x9.ty.index, YK x9.ty.name, We x9.ty.levels, We x9.ty.kids, Wg x9.value.kind, Wg x9.value.index, YK x9.value.name, We x9.value.levels, We x9.value.kids, Wg x9.fixed, We x9.ctors, Wg x9.rcr.params, Wg x9.rcr.ty.kind, Wg x9.rcr.ty.index, YK x9.rcr.ty.name, We x9.rcr.ty.levels, We x9.rcr.ty.kids, We x9.rcr.rules, We x9.funs]) J3 rfl rfl hx9 rfl) <| Q9 rfl rfl (W1 rfl) (Ql Z8 rfl) <| XS rfl rfl rfl <| QA rfl rfl (Jb (x9 : Dcl) J3 rfl rfl rfl rfl rfl) <| Q3 <| Q1 <| Q2 <| Q0 <| XP rfl rfl rfl (Jj (x9 : Dcl) J3 rfl rfl) ?_
  refine Qb h2 (fun x11 hx11 h2 => ?_)
  refine Q9 rfl rfl (W1 rfl) (Qt (K5 x9 x11 hx11) rfl (.cons (.agg (.cons (.d _) (.cons (.d _) (.cons (.d _) (.cons (.d _) (.cons (.d _) (.cons (.d _) (.cons (.d _) (.cons (.d _) (.cons (.d _) (.cons (.d _) (.cons (.d _) (.cons (.d _) (.cons (.d _) (.cons (.d _) (.cons (.d _) (.cons (.d _) (.cons (.d _) (.cons (.d _) (.cons (.d _) (.cons (.d _) (.cons (.d _) (.cons (.d _) (.cons (.d _) .nil)))))))))))))))))))))))) .nil)) <| XP rfl rfl rfl (Qy (α := Wy) QQ rfl (.d _)) <| XR rfl rfl rfl <| Q3 <| Q1 <| Qd ?_
  refine QI 2 (fun (o12 : (Qc Wy Int)) => ⟨[(0, .v (.one (.osl 0 0 nn nn))), (2, .v (.one (.ptr 1 0))), (4, .v (.one (.ptr 3 0))), (20, .v (.one (.osl 0 0 nn nn))), (21, .v (.one (Wg ((nn : Nat) : Int)))), (22, .v (.one (Wg s2.1)))], [(0, .cells 48 (Q6 a0)), (1, .cells 72 [Wf, .d (.v (.map none))]), (2, .mp (QJ o12.1) o12.2), (3, .cells 72 [Wf, .mp 2]), (4, .cells 48 (Wj x9))], [], 5, 88, []⟩) (fun (o12 : (Qc Wy Int)) => (some (.next ((QW (s2.1 + 1)), o12))) = some oo2) ?_ ?_
  refine Qb h2 (fun o13 hl3 h2 => ?_)
  refine QH (m22o_l0 x11 s2) (fun s3 => ⟨[(0, .v (.one (.osl 0 0 nn nn))), (2, .v (.one (.ptr 1 0))), (4, .v (.one (.ptr 3 0))), (5, .v (.one (Wg s2.1))), (20, .v (.one (.osl 0 0 nn nn))), (21, .v (.one (Wg ((nn : Nat) : Int)))), (22, .v (.one (Wg s2.1))), (28, .v (.one (We x11))), (29, .v (.one (Wg (x11.length : Int)))), (30, .v (.one (Wg s3.1)))], [(0, .cells 48 (Q6 a0)), (1, .cells 72 [Wf, .d (.v (.map none))]), (2, .mp (QJ s3.2.1) s3.2.2), (3, .cells 72 [Wf, .mp 2]), (4, .cells 48 (Wj x9))], [], 5, 88, []⟩) (0, s2.2) o13 (Qh (XK rfl (XK rfl (XK rfl (XK rfl (XK rfl (XK rfl (XK rfl (XK rfl (XK rfl (XK rfl XJ)))))))))) (W8 rfl (W8 rfl (W8 rfl (W8 rfl (W8 rfl W7))))) W3 rfl (Nat.le_trans hv1 (W1 rfl)) rfl rfl rfl (Wo rfl (Wp rfl rfl (Wn rfl (Wp rfl rfl (Wp rfl rfl Wm))))) rfl rfl) hl3 (fun s3 n3 oo3 h3 ho3 => ?_)
  unfold m22o_l0 at h3
  refine Q2 <| Q0 <| XP rfl rfl rfl (Q4 rfl rfl rfl) <| Q3 <| Q1 <| Q2 ?_
  refine Qg (b := (decide (s3.1 < (x11.length : Int)))) rfl (fun c14 => ?_) (fun c14 => ?_)
  replace h3 := Qu c14 h3
  refine Qj <| Q1 <| Q2 <| Qd <| Q2 <| Q0 ?_
  refine Qb h3 (fun x15 hx15 h3 => ?_)
  refine XP rfl rfl rfl (Qq (α := Wy) QQ rfl (.d _) rfl hx15) <| XP rfl rfl rfl (QK Y6 rfl rfl) <| XS rfl rfl rfl <| Q3 <| Q1 <| Q2 <| Q2 <| Q0 <| XP rfl rfl rfl (Q8 JJ rfl) <| XP rfl rfl rfl (Q7 Yw rfl rfl rfl) <| XR rfl rfl rfl <| XP rfl rfl rfl (Jo (M := s3.2) (k := x15) Yv Yb rfl rfl rfl) <| XR rfl rfl rfl <| XP rfl rfl rfl (Qe rfl rfl) ?_
  refine XP rfl rfl rfl (Qe rfl rfl) <| XS rfl rfl rfl <| XS rfl rfl rfl <| Q3 <| Q1 <| Q2 <| Q0 <| XR rfl rfl rfl <| Q3 <| Q1 ?_
  refine Qg (b := (Jr s3.2 x15)) rfl (fun c16 => ?_) (fun c16 => ?_)
  replace h3 := Qu c16 h3
  refine Q2 <| Q0 <| XP rfl rfl rfl (Y1 YR rfl ) <| QA rfl rfl (Qi J2 rfl rfl rfl rfl (W1 rfl) rfl) <| XS rfl rfl rfl <| Q3 <| Q1 <| Qw ?_
  have e := XN h3; subst e
  have e_ : _ = _ := ho3
  subst e_
  try dsimp only [Sum.elim_inl, Sum.elim_inr] at h2
  have e := XN h2; subst e
  have e_ : _ = _ := ho2
  subst e_
  try dsimp only [Sum.elim_inl, Sum.elim_inr] at h1
  have e := XN h1; subst e
  exact hQ1 _ _ _ (.inr rfl) rfl (show StLe _ _ ⟨[(2, .v (.one (.ptr 1 0))), (3, .v (.one (Wg 8)))], [(0, .cells 48 (Q6 a0)), (1, .cells 72 [Wf, .d (.v (.map none))])], [], 5, 88, []⟩ from (Qh (XK rfl (XK rfl XJ)) (W8 rfl (W8 rfl W7)) W3 rfl (Nat.le_trans hv1 (W1 rfl)) rfl rfl rfl (Wo rfl (Wp rfl rfl Wm)) rfl rfl))
  replace h3 := Qv c16 h3
  refine Qj <| Q1 <| Q0 <| XP rfl rfl rfl (Q8 JJ rfl) <| XP rfl rfl rfl (Q7 Yw rfl rfl rfl) <| XR rfl rfl rfl <| XR rfl rfl rfl <| QA rfl rfl (JI (M := s3.2) (k := x15) (v := s2.1) Yv rfl rfl rfl rfl rfl) <| Q3 <| Qk <| Q1 <| Q0 <| XP rfl rfl rfl (Q4 rfl rfl rfl) <| XR rfl rfl rfl ?_
  refine Q3 ?_
  have e := XN h3; subst e
  refine QD ((QW (s3.1 + 1)), (JR s3.2 x15 s2.1)) (Qh (XK rfl (XK rfl (XK rfl (XK rfl (XK rfl (XK rfl (XK rfl (XK rfl (XK rfl (XK rfl XJ)))))))))) (W8 rfl (W8 rfl (W8 rfl (W8 rfl (W8 rfl W7))))) W3 rfl (Nat.le_trans hv1 (W1 rfl)) rfl rfl rfl (Wo rfl (Wp rfl rfl (Wn rfl (Wp rfl rfl (Wp rfl rfl Wm))))) rfl rfl) ho3
  replace h3 := Qv c14 h3
  refine QN <| Qf <| Qf ?_
  have e := XN h3; subst e
  have e_ : _ = _ := ho3
  subst e_
  exact QF s3.2 (Qh (XK rfl (XK rfl (XK rfl (XK rfl (XK rfl (XK rfl XJ)))))) (W8 rfl (W8 rfl (W8 rfl (W8 rfl (W8 rfl W7))))) W3 rfl (Nat.le_trans hv1 (W1 rfl)) rfl rfl rfl (Wo rfl (Wp rfl rfl (Wn rfl (Wp rfl rfl (Wp rfl rfl Wm))))) rfl rfl) h2
  intro o12 h2
  refine Qx <| Qk <| Q1 <| Q0 <| XP rfl rfl rfl (Q4 rfl rfl rfl) <| XR rfl rfl rfl <| Q3 ?_
  have e := XN h2; subst e
  refine QD ((QW (s2.1 + 1)), o12) (Qh (XK rfl (XK rfl (XK rfl (XK rfl (XK rfl (XK rfl XJ)))))) (W8 rfl (W8 rfl (W8 rfl (W8 rfl W7)))) W3 rfl (Nat.le_trans hv1 (W1 rfl)) rfl rfl rfl (Wo rfl (Wp rfl rfl (Wn rfl (Wp rfl rfl Wm)))) rfl rfl) ho2
  replace h2 := Qv c8 h2
  refine QN <| Qf <| Qf ?_
  have e := XN h2; subst e
  have e_ : _ = _ := ho2
  subst e_
  exact QF s2.2 (Qh (XK rfl (XK rfl (XK rfl XJ))) (W8 rfl (W8 rfl (W8 rfl (W8 rfl W7)))) W3 rfl (Nat.le_trans hv1 (W1 rfl)) rfl rfl rfl (Wo rfl (Wp rfl rfl (Wn rfl (Wp rfl rfl Wm)))) rfl rfl) h1
  intro o6 h1
  refine Qx <| Q1 <| Q2 <| Q2 <| Q0 <| XR rfl rfl rfl <| XP rfl rfl rfl (Y7 J5 rfl) <| XR rfl rfl rfl <| Q3 <| Q1 <| Qd ?_
  refine QI 4 (fun (o17 : (List (List Int))) => ⟨[(2, .v (.one (.ptr 1 0))), (4, .v (.one (.ptr 3 0)))], [(0, .cells 48 (Q6 a0)), (1, .cells 72 [Wf, .d (.v (.map none))]), (2, .mp (QJ o6.1) o6.2), (3, .cells 72 [Wi 4 o17, .mp 2])], [(4, some ⟨54, 1, (Enc.encL o17).length, []⟩)], 5, 88, []⟩) (fun (o17 : (List (List Int))) => (some (.inl (o17, o6))) = some y5) ?_ ?_
  refine YH (i := 3) (off := 0) 54 1 rfl rfl ?_
  refine Qb h1 (fun o18 hl2 h1 => ?_)
  refine QH (m22o_l3 nn a0 o6) (fun s2 => ⟨[(2, .v (.one (.ptr 1 0))), (4, .v (.one (.ptr 3 0))), (49, .v (.one (.osl 0 0 nn nn))), (50, .v (.one (Wg ((nn : Nat) : Int)))), (51, .v (.one (Wg s2.1)))], [(0, .cells 48 (Q6 a0)), (1, .cells 72 [Wf, .d (.v (.map none))]), (2, .mp (QJ o6.1) o6.2), (3, .cells 72 [Wi 4 s2.2, .mp 2])], [(4, some ⟨54, 1, (Enc.encL s2.2).length, []⟩)], 5, 88, []⟩) (0, ([] : List (List Int))) o18 (Qh (XK rfl (XK rfl (XK rfl (XK rfl (XK rfl XJ))))) (W8 rfl (W8 rfl (W8 rfl (W8 rfl W7)))) (W4 rfl W3) rfl (Nat.le_trans hv1 (W1 rfl)) rfl rfl rfl (Wo rfl (Wp rfl rfl (Wn rfl (Wp rfl rfl Wm)))) rfl rfl) hl2 (fun s2 n2 oo2 h2 ho2 => ?_)
  unfold m22o_l3 at h2
  refine Q2 <| Q0 <| XP rfl rfl rfl (Q4 rfl rfl rfl) <| Q3 <| Q1 <| Q2 ?_
  refine Qg (b := (decide (s2.1 < ((nn : Nat) : Int)))) rfl (fun c19 => ?_) (fun c19 => ?_)
  replace h2 := Qu c19 h2
  refine Qj <| Q1 <| Q2 <| Qd <| Q2 <| Q0 ?_
  refine Qb h2 (fun x20 hx20 h2 => ?_)
  refine QO h2 (fun g21 h2 => ?_)
  refine XP rfl rfl rfl (Jk (α := Dcl) J5 rfl rfl hx20 g21) <| XP rfl rfl rfl (Yq (α := Dcl) (ys := [Wg x20.kind, YK x20.name, Wg x20.params, Wg x20.ty.kind, Wg x20.ty.index, YK x20.ty.name, We x20.ty.levels, We x20.ty.kids, Wg x20.value.kind, Wg x20.value.index, YK x20.value.name, We x20.value.levels, We x20.value.kids, Wg x20.fixed, We x20.ctors, Wg x20.rcr.params, Wg x20.rcr.ty.kind, Wg x20.rcr.ty.index, YK x20.rcr.ty.name, We x20.rcr.ty.levels, We x20.rcr.ty.kids, We x20.rcr.rules, We x20.funs]) J3 rfl rfl hx20 rfl) <| Q9 rfl rfl (W1 rfl) (Ql Z8 rfl) <| QA rfl rfl (Jb (x20 : Dcl) J3 rfl rfl rfl rfl rfl) <| Q3 <| Q1 <| Q2 <| Q0 <| XS rfl rfl rfl <| Q3 <| Q1 <| Q2 <| Q2 <| Q0 ?_
  refine XP rfl rfl rfl (Jj (x20 : Dcl) J3 rfl rfl) ?_
  refine Qb h2 (fun x22 hx22 h2 => ?_)
  refine Q9 rfl rfl (W1 rfl) (Qt (Gh x20 x22 hx22) rfl (.cons (.agg (.cons (.d _) (.cons (.d _) (.cons (.d _) (.cons (.d _) (.cons (.d _) (.cons (.d _) (.cons (.d _) (.cons (.d _) (.cons (.d _) (.cons (.d _) (.cons (.d _) (.cons (.d _) (.cons (.d _) (.cons (.d _) (.cons (.d _) (.cons (.d _) (.cons (.d _) (.cons (.d _) (.cons (.d _) (.cons (.d _) (.cons (.d _) (.cons (.d _) (.cons (.d _) .nil)))))))))))))))))))))))) .nil)) <| XP rfl rfl rfl (Qy (α := Wy) QQ rfl (.d _)) <| XR rfl rfl rfl <| Q3 <| Q1 <| Qd ?_
  refine QI 6 (fun (o23 : (List Int)) => ⟨[(2, .v (.one (.ptr 1 0))), (4, .v (.one (.ptr 3 0))), (13, .v (.one (.apv 6 1 ((Enc.encL o23).length) []))), (49, .v (.one (.osl 0 0 nn nn))), (50, .v (.one (Wg ((nn : Nat) : Int)))), (51, .v (.one (Wg s2.1)))], [(0, .cells 48 (Q6 a0)), (1, .cells 72 [Wf, .d (.v (.map none))]), (2, .mp (QJ o6.1) o6.2), (3, .cells 72 [Wi 4 s2.2, .mp 2]), (5, .cells 48 (Wj x20))], [(4, some ⟨54, 1, (Enc.encL s2.2).length, []⟩), (6, some ⟨3, 1, (Enc.encL o23).length, (Enc.encL o23).flatten⟩)], 7, 88, []⟩) (fun (o23 : (List Int)) => (Option.bind (YZ o23) fun (x24 : List Int) =>
    Option.bind (JM x24 ((Enc.encL o23).length)) fun (x25 : List Int) =>
    Qm (Nat.ble (s2.2.length + ([x25]).length) 1000000000)
    (some (.next ((QW (s2.1 + 1)), (s2.2 ++ ([x25])))))) = some oo2) ?_ ?_
  refine Y0 (t := 13) 3 1 rfl <| ZY (α := Int) (t := 13) rfl rfl ?_
  refine Qb h2 (fun o24 hl3 h2 => ?_)
  refine QH (m22o_l2 x22 o6) (fun s3 => ⟨[(2, .v (.one (.ptr 1 0))), (4, .v (.one (.ptr 3 0))), (13, .v (.one (.apv 6 1 ((Enc.encL s3.1).length) []))), (49, .v (.one (.osl 0 0 nn nn))), (50, .v (.one (Wg ((nn : Nat) : Int)))), (51, .v (.one (Wg s2.1))), (56, .v (.one (We x22))), (57, .v (.one (Wg (x22.length : Int)))), (58, .v (.one (Wg s3.2)))], [(0, .cells 48 (Q6 a0)), (1, .cells 72 [Wf, .d (.v (.map none))]), (2, .mp (QJ o6.1) o6.2), (3, .cells 72 [Wi 4 s2.2, .mp 2]), (5, .cells 48 (Wj x20))], [(4, some ⟨54, 1, (Enc.encL s2.2).length, []⟩), (6, some ⟨3, 1, (Enc.encL s3.1).length, (Enc.encL s3.1).flatten⟩)], 7, 88, []⟩) (([] : List Int), 0) o24 (Qh (XK rfl (XK rfl (XK rfl (XK rfl (XK rfl (XK rfl (XK rfl (XK rfl (XK rfl XJ))))))))) (W8 rfl (W8 rfl (W8 rfl (W8 rfl (W8 rfl W7))))) (W4 rfl (W4 rfl W3)) rfl (Nat.le_trans hv1 (W1 rfl)) rfl rfl rfl (Wo rfl (Wp rfl rfl (Wn rfl (Wp rfl rfl (Wp rfl rfl Wm))))) rfl rfl) hl3 (fun s3 n3 oo3 h3 ho3 => ?_)
  unfold m22o_l2 at h3
  refine Q2 <| Q0 <| XP rfl rfl rfl (Q4 rfl rfl rfl) <| Q3 <| Q1 <| Q2 ?_
  refine Qg (b := (decide (s3.2 < (x22.length : Int)))) rfl (fun c25 => ?_) (fun c25 => ?_)
  replace h3 := Qu c25 h3
  refine Qj <| Q1 <| Q2 <| Qd <| Q2 <| Q0 ?_
  refine Qb h3 (fun x26 hx26 h3 => ?_)
  refine XP rfl rfl rfl (Qq (α := Wy) QQ rfl (.d _) rfl hx26) <| XP rfl rfl rfl (QK Y6 rfl rfl) <| XS rfl rfl rfl <| Q3 <| Q1 <| Q2 <| Q0 <| XP rfl rfl rfl (Q8 JJ rfl) <| XP rfl rfl rfl (Q7 Yw rfl rfl rfl) <| XR rfl rfl rfl <| XP rfl rfl rfl (Jo (M := o6) (k := x26) Yv Yb rfl rfl rfl) <| XR rfl rfl rfl <| XP rfl rfl rfl (Qe rfl rfl) <| XP rfl rfl rfl (Qe rfl rfl) ?_
  refine XS rfl rfl rfl <| XS rfl rfl rfl <| Q3 <| Q1 <| Q2 <| Q2 <| Q0 <| XR rfl rfl rfl <| XP rfl rfl rfl (Jp rfl) <| Q3 <| Q1 ?_
  refine Qg (b := (!(Jr o6 x26))) rfl (fun c27 => ?_) (fun c27 => ?_)
  replace h3 := Qu c27 h3
  refine Q2 <| Q0 <| XP rfl rfl rfl (Y1 YR rfl ) <| QA rfl rfl (Qi J2 rfl rfl rfl rfl (W1 rfl) rfl) <| XS rfl rfl rfl <| Q3 <| Q1 <| Qw ?_
  have e := XN h3; subst e
  have e_ : _ = _ := ho3
  subst e_
  try dsimp only [Sum.elim_inl, Sum.elim_inr] at h2
  have e := XN h2; subst e
  have e_ : _ = _ := ho2
  subst e_
  try dsimp only [Sum.elim_inl, Sum.elim_inr] at h1
  have e := XN h1; subst e
  exact hQ1 _ _ _ (.inr rfl) rfl (show StLe _ _ ⟨[(2, .v (.one (.ptr 1 0))), (3, .v (.one (Wg 9)))], [(0, .cells 48 (Q6 a0)), (1, .cells 72 [Wf, .d (.v (.map none))])], [], 7, 88, []⟩ from (Qh (XK rfl (XK rfl XJ)) (W8 rfl (W8 rfl W7)) W3 rfl (Nat.le_trans hv1 (W1 rfl)) rfl rfl rfl (Wo rfl (Wp rfl rfl Wm)) rfl rfl))
  replace h3 := Qv c27 h3
  refine Qj <| Q1 <| Q0 <| XR rfl rfl rfl <| XR rfl rfl rfl <| Q9 rfl rfl (W1 rfl) (QY (α := Int) ((J7 o6 x26)) JP Xh rfl rfl (W1 rfl) (W1 rfl) rfl rfl (.cons (.d _) .nil) rfl) ?_
  refine QO h3 (fun g28 h3 => ?_)
  refine Q9 rfl rfl (W1 rfl) (Yr (α := Int) (l := s3.1) (l2 := ([(J7 o6 x26)] : List Int)) JP X2 rfl rfl rfl rfl (.app _ _) rfl g28) <| XS rfl rfl rfl <| Q3 <| Qk <| Q1 <| Q0 <| XP rfl rfl rfl (Q4 rfl rfl rfl) <| XR rfl rfl rfl <| Q3 ?_
  have e := XN h3; subst e
  refine QD ((s3.1 ++ ([(J7 o6 x26)])), (QW (s3.2 + 1))) (Qh (XK rfl (XK rfl (XK rfl (XK rfl (XK rfl (XK rfl (XK rfl (XK rfl (XK rfl XJ))))))))) (W8 rfl (W8 rfl (W8 rfl (W8 rfl (W8 rfl W7))))) (W4 rfl (W4 rfl W3)) rfl (Nat.le_trans hv1 (W1 rfl)) rfl rfl rfl (Wo rfl (Wp rfl rfl (Wn rfl (Wp rfl rfl (Wp rfl rfl Wm))))) rfl rfl) ho3
  replace h3 := Qv c25 h3
  refine QN <| Qf <| Qf ?_
  have e := XN h3; subst e
  have e_ : _ = _ := ho3
  subst e_
  exact QF s3.1 (Qh (XK rfl (XK rfl (XK rfl (XK rfl (XK rfl (XK rfl XJ)))))) (W8 rfl (W8 rfl (W8 rfl (W8 rfl (W8 rfl W7))))) (W4 rfl (W4 rfl W3)) rfl (Nat.le_trans hv1 (W1 rfl)) rfl rfl rfl (Wo rfl (Wp rfl rfl (Wn rfl (Wp rfl rfl (Wp rfl rfl Wm))))) rfl rfl) h2
  intro o23 h2
  refine Qx <| Q1 <| Q2 <| Q0 <| XR rfl rfl rfl ?_
  refine Qb h2 (fun x29 hx29 h2 => ?_)
  refine Q9 rfl rfl (W1 rfl) (QS (hp1' := []) (tk1' := [(6, some ⟨3, 1, (Enc.encL o23).length, (Enc.encL x29).flatten⟩)]) (hpF := [(0, .cells 48 (Q6 a0)), (1, .cells 72 [Wf, .d (.v (.map none))]), (2, .mp (QJ o6.1) o6.2), (3, .cells 72 [Wi 4 s2.2, .mp 2]), (5, .cells 48 (Wj x20))]) (tkF := [(4, some ⟨54, 1, (Enc.encL s2.2).length, []⟩)]) (res2 := Qr []) (nx2 := 7) [6] rfl rfl (ZJ o23 x29 hx29) rfl rfl XT rfl rfl Wa (W6 rfl W5) (W8 rfl (W8 rfl (W8 rfl (W8 rfl (W8 rfl W7))))) (W4 rfl W3) rfl rfl rfl rfl rfl Wm rfl rfl rfl rfl) <| Q3 <| Q1 ?_
  refine JZ [3, 5, 7] [(0, 1), (1, 1)] mixed (by kernel_rfl) (by kernel_rfl) (by kernel_rfl) ?_
  refine RunA.rd rfl rfl rfl (Q5 (Q8 JA rfl)) rfl <| RunA.rd rfl rfl rfl (Q5 (Q7 JV rfl rfl rfl)) rfl <| RunA.rd rfl rfl rfl (Q5 (QV rfl)) rfl ?_
  refine Qb h2 (fun x30 hx30 h2 => ?_)
  refine RunA.eff rfl rfl rfl (QS (hp1' := []) (tk1' := [(7, some ⟨3, 1, (Enc.encL x30).length, []⟩)]) (hpF := [(0, .cells 48 (Q6 a0)), (1, .cells 72 [Wf, .d (.v (.map none))]), (2, .mp (QJ o6.1) o6.2), (3, .cells 72 [Wi 4 s2.2, .mp 2]), (5, .cells 48 (Wj x20))]) (tkF := [(4, some ⟨54, 1, (Enc.encL s2.2).length, []⟩)]) (res2 := Qr [.one (Wi 7 x30)]) (nx2 := 8) [6] rfl rfl (YE x29 ((Enc.encL o23).length) x30 hx30) rfl rfl XT rfl rfl Wa (W6 rfl W5) (W8 rfl (W8 rfl (W8 rfl (W8 rfl (W8 rfl W7))))) (W4 rfl W3) rfl rfl rfl rfl rfl Wm rfl rfl rfl rfl) rfl <| RunA.rd rfl rfl rfl (JX (α := List Int) (x30) Y3 X6 rfl rfl (W1 rfl) rfl rfl (.cons (.app _ _ _) .nil) rfl) rfl ?_
  refine QO h2 (fun g31 h2 => ?_)
  refine RunA.eff rfl rfl rfl (QU (α := List Int) Y3 GL rfl rfl rfl rfl rfl (.d _) g31) rfl <| RunA.rd rfl rfl rfl (Q5 (Q8 JA rfl)) rfl <| RunA.eff rfl rfl rfl (Qi JV rfl rfl rfl rfl (W1 rfl) rfl) rfl ?_
  refine RunA.nil ⟨?ex, _, _, rfl, ?_⟩
  case ex => exact ⟨⟨_, rfl, _, _, rfl, rfl, rfl, .inl ⟨rfl, _, Q5 (Q8 JA rfl), rfl⟩⟩, ⟨_, rfl, _, _, rfl, rfl, rfl, .inl ⟨rfl, _, Q5 (Q7 JV rfl rfl rfl), rfl⟩⟩, trivial⟩
  refine JT (st' := ⟨[(2, .v (.one (.ptr 1 0))), (4, .v (.one (.ptr 3 0))), (49, .v (.one (.osl 0 0 nn nn))), (50, .v (.one (Wg ((nn : Nat) : Int)))), (51, .v (.one (Wg s2.1)))], [(0, .cells 48 (Q6 a0)), (1, .cells 72 [Wf, .d (.v (.map none))]), (2, .mp (QJ o6.1) o6.2), (3, .cells 72 [Wi 4 ((s2.2 ++ ([x30])) : List (List Int)), .mp 2]), (5, .cells 48 (Wj x20))], [(4, some ⟨54, 1, (Enc.encL ((s2.2 ++ ([x30])) : List (List Int))).length, []⟩), (7, some ⟨3, 1, (Enc.encL x30).length, []⟩)], 8, 88, []⟩) (Qh (XK rfl (XK rfl (XK rfl (XK rfl (XK rfl XJ))))) (W8 rfl (W8 rfl (W8 rfl (W8 rfl (W8 rfl W7))))) (W4 rfl (W4 rfl W3)) rfl (Nat.le_trans hv1 (W1 rfl)) rfl rfl rfl (Wo rfl (Wp rfl rfl (Wn rfl (Wp rfl rfl (Wp rfl rfl Wm))))) rfl rfl) <| Qk <| Q1 <| Q0 <| XP rfl rfl rfl (Q4 rfl rfl rfl) <| XR rfl rfl rfl <| Q3 ?_
  have e := XN h2; subst e
  refine QD ((QW (s2.1 + 1)), (s2.2 ++ ([x30]))) (Qh (XK rfl (XK rfl (XK rfl (XK rfl (XK rfl XJ))))) (W8 rfl (W8 rfl (W8 rfl (W8 rfl W7)))) (W4 rfl W3) rfl (Nat.le_trans hv1 (W1 rfl)) rfl rfl rfl (Wo rfl (Wp rfl rfl (Wn rfl (Wp rfl rfl Wm)))) rfl rfl) ho2
  replace h2 := Qv c19 h2
  refine QN <| Qf <| Qf ?_
  have e := XN h2; subst e
  have e_ : _ = _ := ho2
  subst e_
  exact QF s2.2 (Qh (XK rfl (XK rfl XJ)) (W8 rfl (W8 rfl (W8 rfl (W8 rfl W7)))) (W4 rfl W3) rfl (Nat.le_trans hv1 (W1 rfl)) rfl rfl rfl (Wo rfl (Wp rfl rfl (Wn rfl (Wp rfl rfl Wm)))) rfl rfl) h1
  intro o17 h1
  refine Qx <| Q1 <| Q2 <| Q0 <| XP rfl rfl rfl (Qz J2 rfl rfl rfl rfl) <| QA rfl rfl (Qi J2 rfl rfl rfl rfl (W1 rfl) rfl) <| XS rfl rfl rfl <| Q3 <| Q1 <| Qw ?_
  have e := XN h1; subst e
  exact hQ1 _ _ _ (.inr rfl) rfl (show StLe _ _ ⟨[(2, .v (.one (.ptr 1 0))), (3, .v (.one (Wg 0)))], [(0, .cells 48 (Q6 a0)), (1, .cells 72 [Wi 4 o17, .mp 2]), (2, .mp (QJ o6.1) o6.2)], [(4, some ⟨54, 1, (Enc.encL o17).length, []⟩)], 5, 88, []⟩ from (Qh (XK rfl (XK rfl XJ)) (W8 rfl (W8 rfl (W8 rfl W7))) (W4 rfl W3) rfl (Nat.le_trans hv1 (W1 rfl)) rfl rfl rfl (Wo rfl (Wp rfl rfl (Wn rfl Wm))) rfl rfl))
 refine KA (C := fun q_ => CallM Try.prog 34 [.one (.osl 0 0 nn nn)] ⟨[(0, .cells 48 (Q6 a0))], [], 1⟩ (Qr (((Sum.elim (fun (y1 : (List (List Int)) × (Qc Wy Int)) => ([.agg [Wi 4 y1.1, .mp 2], .one (Wg 0)] : List AV)) (Sum.elim (fun (y2 : Unit) => ([.agg [Wf, .d (.v (.map none))], .one (Wg 8)] : List AV)) (fun (y3 : Unit) => ([.agg [Wf, .d (.v (.map none))], .one (Wg 9)] : List AV))))) q_)) ⟨(((Sum.elim (fun (y1 : (List (List Int)) × (Qc Wy Int)) => (⟨[(2, .v (.one (.ptr 1 0))), (3, .v (.one (Wg 0)))], [(0, .cells 48 (Q6 a0)), (1, .cells 72 [Wi 4 y1.1, .mp 2]), (2, .mp (QJ y1.2.1) y1.2.2)], [(4, some ⟨54, 1, (Enc.encL y1.1).length, []⟩)], 5, 88, []⟩ : St)) (Sum.elim (fun (y2 : Unit) => (⟨[(2, .v (.one (.ptr 1 0))), (3, .v (.one (Wg 8)))], [(0, .cells 48 (Q6 a0)), (1, .cells 72 [Wf, .d (.v (.map none))])], [], 5, 88, []⟩ : St)) (fun (y3 : Unit) => (⟨[(2, .v (.one (.ptr 1 0))), (3, .v (.one (Wg 9)))], [(0, .cells 48 (Q6 a0)), (1, .cells 72 [Wf, .d (.v (.map none))])], [], 7, 88, []⟩ : St))))) q_).hp, (((Sum.elim (fun (y1 : (List (List Int)) × (Qc Wy Int)) => (⟨[(2, .v (.one (.ptr 1 0))), (3, .v (.one (Wg 0)))], [(0, .cells 48 (Q6 a0)), (1, .cells 72 [Wi 4 y1.1, .mp 2]), (2, .mp (QJ y1.2.1) y1.2.2)], [(4, some ⟨54, 1, (Enc.encL y1.1).length, []⟩)], 5, 88, []⟩ : St)) (Sum.elim (fun (y2 : Unit) => (⟨[(2, .v (.one (.ptr 1 0))), (3, .v (.one (Wg 8)))], [(0, .cells 48 (Q6 a0)), (1, .cells 72 [Wf, .d (.v (.map none))])], [], 5, 88, []⟩ : St)) (fun (y3 : Unit) => (⟨[(2, .v (.one (.ptr 1 0))), (3, .v (.one (Wg 9)))], [(0, .cells 48 (Q6 a0)), (1, .cells 72 [Wf, .d (.v (.map none))])], [], 7, 88, []⟩ : St))))) q_).tk, (((Sum.elim (fun (y1 : (List (List Int)) × (Qc Wy Int)) => (⟨[(2, .v (.one (.ptr 1 0))), (3, .v (.one (Wg 0)))], [(0, .cells 48 (Q6 a0)), (1, .cells 72 [Wi 4 y1.1, .mp 2]), (2, .mp (QJ y1.2.1) y1.2.2)], [(4, some ⟨54, 1, (Enc.encL y1.1).length, []⟩)], 5, 88, []⟩ : St)) (Sum.elim (fun (y2 : Unit) => (⟨[(2, .v (.one (.ptr 1 0))), (3, .v (.one (Wg 8)))], [(0, .cells 48 (Q6 a0)), (1, .cells 72 [Wf, .d (.v (.map none))])], [], 5, 88, []⟩ : St)) (fun (y3 : Unit) => (⟨[(2, .v (.one (.ptr 1 0))), (3, .v (.one (Wg 9)))], [(0, .cells 48 (Q6 a0)), (1, .cells 72 [Wf, .d (.v (.map none))])], [], 7, 88, []⟩ : St))))) q_).nx⟩) hc4 h0 (fun y1 hc4 h0 => ?_) (fun z_ hc4 h0 => KA (C := fun q_ => CallM Try.prog 34 [.one (.osl 0 0 nn nn)] ⟨[(0, .cells 48 (Q6 a0))], [], 1⟩ (Qr (((Sum.elim (fun (y1 : (List (List Int)) × (Qc Wy Int)) => ([.agg [Wi 4 y1.1, .mp 2], .one (Wg 0)] : List AV)) (Sum.elim (fun (y2 : Unit) => ([.agg [Wf, .d (.v (.map none))], .one (Wg 8)] : List AV)) (fun (y3 : Unit) => ([.agg [Wf, .d (.v (.map none))], .one (Wg 9)] : List AV))))) (.inr q_))) ⟨(((Sum.elim (fun (y1 : (List (List Int)) × (Qc Wy Int)) => (⟨[(2, .v (.one (.ptr 1 0))), (3, .v (.one (Wg 0)))], [(0, .cells 48 (Q6 a0)), (1, .cells 72 [Wi 4 y1.1, .mp 2]), (2, .mp (QJ y1.2.1) y1.2.2)], [(4, some ⟨54, 1, (Enc.encL y1.1).length, []⟩)], 5, 88, []⟩ : St)) (Sum.elim (fun (y2 : Unit) => (⟨[(2, .v (.one (.ptr 1 0))), (3, .v (.one (Wg 8)))], [(0, .cells 48 (Q6 a0)), (1, .cells 72 [Wf, .d (.v (.map none))])], [], 5, 88, []⟩ : St)) (fun (y3 : Unit) => (⟨[(2, .v (.one (.ptr 1 0))), (3, .v (.one (Wg 9)))], [(0, .cells 48 (Q6 a0)), (1, .cells 72 [Wf, .d (.v (.map none))])], [], 7, 88, []⟩ : St))))) (.inr q_)).hp, (((Sum.elim (fun (y1 : (List (List Int)) × (Qc Wy Int)) => (⟨[(2, .v (.one (.ptr 1 0))), (3, .v (.one (Wg 0)))], [(0, .cells 48 (Q6 a0)), (1, .cells 72 [Wi 4 y1.1, .mp 2]), (2, .mp (QJ y1.2.1) y1.2.2)], [(4, some ⟨54, 1, (Enc.encL y1.1).length, []⟩)], 5, 88, []⟩ : St)) (Sum.elim (fun (y2 : Unit) => (⟨[(2, .v (.one (.ptr 1 0))), (3, .v (.one (Wg 8)))], [(0, .cells 48 (Q6 a0)), (1, .cells 72 [Wf, .d (.v (.map none))])], [], 5, 88, []⟩ : St)) (fun (y3 : Unit) => (⟨[(2, .v (.one (.ptr 1 0))), (3, .v (.one (Wg 9)))], [(0, .cells 48 (Q6 a0)), (1, .cells 72 [Wf, .d (.v (.map none))])], [], 7, 88, []⟩ : St))))) (.inr q_)).tk, (((Sum.elim (fun (y1 : (List (List Int)) × (Qc Wy Int)) => (⟨[(2, .v (.one (.ptr 1 0))), (3, .v (.one (Wg 0)))], [(0, .cells 48 (Q6 a0)), (1, .cells 72 [Wi 4 y1.1, .mp 2]), (2, .mp (QJ y1.2.1) y1.2.2)], [(4, some ⟨54, 1, (Enc.encL y1.1).length, []⟩)], 5, 88, []⟩ : St)) (Sum.elim (fun (y2 : Unit) => (⟨[(2, .v (.one (.ptr 1 0))), (3, .v (.one (Wg 8)))], [(0, .cells 48 (Q6 a0)), (1, .cells 72 [Wf, .d (.v (.map none))])], [], 5, 88, []⟩ : St)) (fun (y3 : Unit) => (⟨[(2, .v (.one (.ptr 1 0))), (3, .v (.one (Wg 9)))], [(0, .cells 48 (Q6 a0)), (1, .cells 72 [Wf, .d (.v (.map none))])], [], 7, 88, []⟩ : St))))) (.inr q_)).nx⟩) hc4 h0 (fun y2 hc4 h0 => ?_) (fun y3 hc4 h0 => ?_))
 replace hc4 : CallM Try.prog 34 [.one (.osl 0 0 nn nn)] ⟨[(0, .cells 48 (Q6 a0))], [], 1⟩ (Qr [.agg [Wi 4 y1.1, .mp 2], .one (Wg 0)]) ⟨[(0, .cells 48 (Q6 a0)), (1, .cells 72 [Wi 4 y1.1, .mp 2]), (2, .mp (QJ y1.2.1) y1.2.2)], [(4, some ⟨54, 1, (Enc.encL y1.1).length, []⟩)], 5⟩ := hc4
 refine Q9 rfl rfl (W1 rfl) (QP rfl rfl rfl hc4 rfl (W8 rfl W7) W3) <| XR rfl rfl rfl <| XP rfl rfl rfl (Qe rfl rfl) <| XP rfl rfl rfl (Qe rfl rfl) <| Q9 rfl rfl (W1 rfl) (Ql YJ rfl) <| QA rfl rfl (Qi J2 rfl rfl rfl rfl (W1 rfl) rfl) <| XS rfl rfl rfl <| Q3 <| Q1 <| Q2 <| Q2 <| Q0 <| XR rfl rfl rfl <| XP rfl rfl rfl (Q4 rfl rfl rfl) ?_
 refine Q3 <| Q1 ?_
 refine Qg rfl (fun h => nomatch h) (fun _ => ?_)
 refine Qj <| Q1 <| Q2 <| Q0 <| XS rfl rfl rfl <| Q3 <| Q1 <| Q2 <| Q0 <| XR rfl rfl rfl <| XP rfl rfl rfl (Y7 J5 rfl) ?_
 refine QO h0 (fun g32 h0 => ?_)
 refine Q9 rfl rfl (W1 rfl) (Zx (α := Bool) (z := false) Z6 XH rfl rfl Xs rfl rfl g32 rfl (by repeat (first | exact CLs.nil | refine CLs.cons (by first | exact .refl _ | exact .sub (.app _ _ _) | exact .sub (.nil _)) ?_))) ?_
 refine Q9 rfl rfl (W1 rfl) (Ql Xg rfl) <| QA rfl rfl (Qi Z7 rfl rfl rfl rfl (W1 rfl) rfl) <| Q3 <| Q1 <| Q2 <| Qd ?_
 refine QI 0 (fun (o33 : (List Int) × (List Bool)) => ⟨[(6, .v (.one (Wi 8 o33.1)))], [(0, .cells 48 (Q6 a0)), (1, .cells 72 [Wi 4 y1.1, .mp 2]), (2, .mp (QJ y1.2.1) y1.2.2), (5, .cells 72 [Wi 4 y1.1, .mp 2]), (6, .cells 4 (Q6 o33.2)), (7, .cells 75 [.osl 6 0 (((nn : Nat) : Int).toNat) (((nn : Nat) : Int).toNat)])], [(4, some ⟨54, 1, (Enc.encL y1.1).length, []⟩), (8, some ⟨3, 1, (Enc.encL o33.1).length, []⟩)], 9, 58, []⟩) (fun (o33 : (List Int) × (List Bool)) => (some (o33.1, 0)) = some r) ?_ ?_
 refine Y0 (t := 6) 3 1 rfl ?_
 refine Qb h0 (fun o34 hl1 h0 => ?_)
 refine QH (m22o_l5 nn y1) (fun s1 => ⟨[(0, .v (.one (.osl 0 0 nn nn))), (4, .v (.one (.ptr 5 0))), (6, .v (.one (Wi 8 s1.1))), (7, .v (.one (.ptr 7 0)))], [(0, .cells 48 (Q6 a0)), (1, .cells 72 [Wi 4 y1.1, .mp 2]), (2, .mp (QJ y1.2.1) y1.2.2), (5, .cells 72 [Wi 4 y1.1, .mp 2]), (6, .cells 4 (Q6 s1.2)), (7, .cells 75 [.osl 6 0 (((nn : Nat) : Int).toNat) (((nn : Nat) : Int).toNat)])], [(4, some ⟨54, 1, (Enc.encL y1.1).length, []⟩), (8, some ⟨3, 1, (Enc.encL s1.1).length, []⟩)], 9, 58, []⟩) (([] : List Int), (List.replicate ((nn : Nat) : Int).toNat false)) o34 (Qh (XK rfl (XK rfl (XK rfl (XK rfl XJ)))) (W8 rfl (W8 rfl (W8 rfl (W8 rfl (W8 rfl (W8 rfl W7)))))) (W4 rfl (W4 rfl W3)) rfl (Nat.le_trans hv0 (W1 rfl)) rfl rfl rfl (Wo rfl (Wp rfl rfl (Wn rfl (Wp rfl rfl (Wo rfl (Wp rfl rfl Wm)))))) rfl rfl) hl1 (fun s1 n1 oo1 h1 ho1 => ?_)
 unfold m22o_l5 at h1
 refine Q2 <| Q2 <| Q0 <| XR rfl rfl rfl <| XP rfl rfl rfl (Qy (α := Int) JP rfl (.app _ _)) <| XR rfl rfl rfl <| XP rfl rfl rfl (Y7 J5 rfl) <| XP rfl rfl rfl (Q4 rfl rfl rfl) <| Q3 <| Q1 ?_
 refine Qg (b := (decide ((s1.1.length : Int) < ((nn : Nat) : Int)))) rfl (fun c35 => ?_) (fun c35 => ?_)
 replace h1 := Qu c35 h1
 refine Qj <| Q1 <| Qd <| Q2 <| Q0 <| XS rfl rfl rfl <| Q3 <| Q1 <| Q2 <| Q2 <| Q0 <| XP rfl rfl rfl (Q8 JA rfl) <| XP rfl rfl rfl (Q7 JV rfl rfl rfl) <| XP rfl rfl rfl (Qy (α := List Int) Y3 rfl (.app _ _)) ?_
 refine XR rfl rfl rfl <| Q3 <| Q1 <| Qd ?_
 refine QI 2 (fun (o36 : Int) => ⟨[(0, .v (.one (.osl 0 0 nn nn))), (4, .v (.one (.ptr 5 0))), (6, .v (.one (Wi 8 s1.1))), (7, .v (.one (.ptr 7 0))), (8, .v (.one (Wg o36)))], [(0, .cells 48 (Q6 a0)), (1, .cells 72 [Wi 4 y1.1, .mp 2]), (2, .mp (QJ y1.2.1) y1.2.2), (5, .cells 72 [Wi 4 y1.1, .mp 2]), (6, .cells 4 (Q6 s1.2)), (7, .cells 75 [.osl 6 0 (((nn : Nat) : Int).toNat) (((nn : Nat) : Int).toNat)])], [(4, some ⟨54, 1, (Enc.encL y1.1).length, []⟩), (8, some ⟨3, 1, (Enc.encL s1.1).length, []⟩)], 9, 58, []⟩) (fun (o36 : Int) => (cond (decide (o36 < 0))
     (some (.done (.inr (([] : List Int), 22))))
     (Option.bind (J1 s1.2 o36) fun (x38 : Bool) =>
   Qm (Nat.beq s1.2.length (((nn : Nat) : Int).toNat))
   (Qm (Nat.ble (s1.1.length + ([o36]).length) 1000000000)
   (some (.next ((s1.1 ++ ([o36])), (s1.2.set o36.toNat true))))))) = some oo1) ?_ ?_
 refine Qb h1 (fun o37 hl2 h1 => ?_)
 refine QH (m22o_l4 y1 s1 nn) (fun s2 => ⟨[(0, .v (.one (.osl 0 0 nn nn))), (4, .v (.one (.ptr 5 0))), (6, .v (.one (Wi 8 s1.1))), (7, .v (.one (.ptr 7 0))), (8, .v (.one (Wg (-1)))), (28, .v (.one (Wi 4 y1.1))), (29, .v (.one (Wg (y1.1.length : Int)))), (30, .v (.one (Wg s2)))], [(0, .cells 48 (Q6 a0)), (1, .cells 72 [Wi 4 y1.1, .mp 2]), (2, .mp (QJ y1.2.1) y1.2.2), (5, .cells 72 [Wi 4 y1.1, .mp 2]), (6, .cells 4 (Q6 s1.2)), (7, .cells 75 [.osl 6 0 (((nn : Nat) : Int).toNat) (((nn : Nat) : Int).toNat)])], [(4, some ⟨54, 1, (Enc.encL y1.1).length, []⟩), (8, some ⟨3, 1, (Enc.encL s1.1).length, []⟩)], 9, 58, []⟩) 0 o37 (Qh (XK rfl (XK rfl (XK rfl (XK rfl (XK rfl (XK rfl (XK rfl (XK rfl XJ)))))))) (W8 rfl (W8 rfl (W8 rfl (W8 rfl (W8 rfl (W8 rfl W7)))))) (W4 rfl (W4 rfl W3)) rfl (Nat.le_trans hv0 (W1 rfl)) rfl rfl rfl (Wo rfl (Wp rfl rfl (Wn rfl (Wp rfl rfl (Wo rfl (Wp rfl rfl Wm)))))) rfl rfl) hl2 (fun s2 n2 oo2 h2 ho2 => ?_)
 unfold m22o_l4 at h2
 refine Q2 <| Q0 <| XP rfl rfl rfl (Q4 rfl rfl rfl) <| Q3 <| Q1 <| Q2 ?_
 refine Qg (b := (decide (s2 < (y1.1.length : Int)))) rfl (fun c38 => ?_) (fun c38 => ?_)
 replace h2 := Qu c38 h2
 refine Qj <| Q1 <| Q2 <| Qd <| Q2 <| Q0 <| XR rfl rfl rfl ?_
 refine Qb h2 (fun x39 hx39 h2 => ?_)
 refine XP rfl rfl rfl (Qq (α := List Int) Y3 rfl (.app _ _) rfl hx39) <| XP rfl rfl rfl (QK Ga rfl rfl) <| XS rfl rfl rfl <| XS rfl rfl rfl <| Q3 <| Q1 <| Q2 ?_
 refine Jy (fun (v40 : Bool) => ⟨[(0, .v (.one (.osl 0 0 nn nn))), (4, .v (.one (.ptr 5 0))), (6, .v (.one (Wi 8 s1.1))), (7, .v (.one (.ptr 7 0))), (8, .v (.one (Wg (-1)))), (9, .v (.one (Wg s2))), (28, .v (.one (Wi 4 y1.1))), (29, .v (.one (Wg (y1.1.length : Int)))), (30, .v (.one (Wg s2))), (45, .v (.one (Wh v40)))], [(0, .cells 48 (Q6 a0)), (1, .cells 72 [Wi 4 y1.1, .mp 2]), (2, .mp (QJ y1.2.1) y1.2.2), (5, .cells 72 [Wi 4 y1.1, .mp 2]), (6, .cells 4 (Q6 s1.2)), (7, .cells 75 [.osl 6 0 (((nn : Nat) : Int).toNat) (((nn : Nat) : Int).toNat)])], [(4, some ⟨54, 1, (Enc.encL y1.1).length, []⟩), (8, some ⟨3, 1, (Enc.encL s1.1).length, []⟩)], 9, 58, []⟩) (fun (v40 : Bool) => (cond v40
     (some (.done s2))
     (some (.next (QW (s2 + 1))))) = some oo2) ?_ ?_
 refine Qb h2 (fun w3_ h3 h2 => ?_)
 refine Q0 <| XP rfl rfl rfl (Q7 Z7 rfl rfl rfl) <| XR rfl rfl rfl ?_
 refine Qb h3 (fun x41 hx41 h3 => ?_)
 refine QO h3 (fun g42 h3 => ?_)
 refine XP rfl rfl rfl (Jk (α := Bool) Z6 rfl rfl hx41 g42) <| XP rfl rfl rfl (YI (α := Bool) (m := s2) (f := 0) Gv rfl rfl hx41 rfl) <| XP rfl rfl rfl (Jp rfl) <| XR rfl rfl rfl ?_
 refine Ja (d := 40) (c := (!x41)) rfl (fun c43 => ?_) (fun c43 => ?_)
 replace h3 := Qu c43 h3
 refine XR rfl rfl rfl <| XP rfl rfl rfl (RO.makeFunc1 rfl) ?_
 refine Qb h3 (fun x44 hx44 h3 => ?_)
 refine Q9 rfl rfl (W1 rfl) (QS (hp1' := [(7, .cells 75 [.osl 6 0 (((nn : Nat) : Int).toNat) (((nn : Nat) : Int).toNat)]), (6, .cells 4 (Q6 s1.2))]) (tk1' := []) (hpF := [(0, .cells 48 (Q6 a0)), (1, .cells 72 [Wi 4 y1.1, .mp 2]), (2, .mp (QJ y1.2.1) y1.2.2), (5, .cells 72 [Wi 4 y1.1, .mp 2])]) (tkF := [(4, some ⟨54, 1, (Enc.encL y1.1).length, []⟩), (8, some ⟨3, 1, (Enc.encL s1.1).length, []⟩)]) (res2 := Qr [.one (Wh x44)]) (nx2 := 9) [7, 6] rfl rfl (m43f5_ok x39 (((nn : Nat) : Int).toNat) s1.2 x44 hx44) rfl rfl (XW rfl rfl (XV rfl XT)) rfl rfl (Wb rfl (Wd rfl Wa)) W5 (W8 rfl (W8 rfl (W8 rfl (W8 rfl W7)))) (W4 rfl (W4 rfl W3)) rfl rfl rfl rfl rfl (Wp rfl rfl (Wo rfl Wm)) rfl rfl rfl rfl) <| XP rfl rfl rfl (Jp rfl) <| XP rfl rfl rfl (QC rfl rfl) <| Q3 ?_
 have e := XN h3; subst e
 exact QG (!x44) (Qh (XK rfl (XK rfl (XK rfl (XK rfl (XK rfl (XK rfl (XK rfl (XK rfl (XK rfl (XK rfl XJ)))))))))) (W8 rfl (W8 rfl (W8 rfl (W8 rfl (W8 rfl (W8 rfl W7)))))) (W4 rfl (W4 rfl W3)) rfl (Nat.le_trans hv0 (W1 rfl)) rfl rfl rfl (Wo rfl (Wp rfl rfl (Wn rfl (Wp rfl rfl (Wo rfl (Wp rfl rfl Wm)))))) rfl rfl) h2
 replace h3 := Qv c43 h3
 refine Qa rfl rfl <| Qa rfl rfl <| Qa rfl rfl <| Qa rfl rfl <| XP rfl rfl rfl (QL rfl rfl) <| Q3 ?_
 have e := XN h3; subst e
 exact QG false (Qh (XK rfl (XK rfl (XK rfl (XK rfl (XK rfl (XK rfl (XK rfl (XK rfl (XK rfl (XK rfl XJ)))))))))) (W8 rfl (W8 rfl (W8 rfl (W8 rfl (W8 rfl (W8 rfl W7)))))) (W4 rfl (W4 rfl W3)) rfl (Nat.le_trans hv0 (W1 rfl)) rfl rfl rfl (Wo rfl (Wp rfl rfl (Wn rfl (Wp rfl rfl (Wo rfl (Wp rfl rfl Wm)))))) rfl rfl) h2
 intro v40 h2
 refine Q1 ?_
 refine Qg (b := v40) rfl (fun c45 => ?_) (fun c45 => ?_)
 replace h2 := Qu c45 h2
 refine Q2 <| Q0 <| XR rfl rfl rfl <| XS rfl rfl rfl <| Q3 <| Q1 <| QN ?_
 refine XQ.blockE (by decide) ?_
 refine Qf <| Qf ?_
 have e := XN h2; subst e
 have e_ : _ = _ := ho2
 subst e_
 exact QF s2 (Qh (XK rfl (XK rfl (XK rfl (XK rfl (XK rfl XJ))))) (W8 rfl (W8 rfl (W8 rfl (W8 rfl (W8 rfl (W8 rfl W7)))))) (W4 rfl (W4 rfl W3)) rfl (Nat.le_trans hv0 (W1 rfl)) rfl rfl rfl (Wo rfl (Wp rfl rfl (Wn rfl (Wp rfl rfl (Wo rfl (Wp rfl rfl Wm)))))) rfl rfl) h1
 replace h2 := Qv c45 h2
 refine Qj <| Qk <| Q1 <| Q0 <| XP rfl rfl rfl (Q4 rfl rfl rfl) <| XR rfl rfl rfl <| Q3 ?_
 have e := XN h2; subst e
 refine QD (QW (s2 + 1)) (Qh (XK rfl (XK rfl (XK rfl (XK rfl (XK rfl (XK rfl (XK rfl (XK rfl XJ)))))))) (W8 rfl (W8 rfl (W8 rfl (W8 rfl (W8 rfl (W8 rfl W7)))))) (W4 rfl (W4 rfl W3)) rfl (Nat.le_trans hv0 (W1 rfl)) rfl rfl rfl (Wo rfl (Wp rfl rfl (Wn rfl (Wp rfl rfl (Wo rfl (Wp rfl rfl Wm)))))) rfl rfl) ho2
 replace h2 := Qv c38 h2
 refine QN <| Qf <| Qf ?_
 have e := XN h2; subst e
 have e_ : _ = _ := ho2
 subst e_
 exact QF (-1) (Qh (XK rfl (XK rfl (XK rfl (XK rfl (XK rfl XJ))))) (W8 rfl (W8 rfl (W8 rfl (W8 rfl (W8 rfl (W8 rfl W7)))))) (W4 rfl (W4 rfl W3)) rfl (Nat.le_trans hv0 (W1 rfl)) rfl rfl rfl (Wo rfl (Wp rfl rfl (Wn rfl (Wp rfl rfl (Wo rfl (Wp rfl rfl Wm)))))) rfl rfl) h1
 intro o36 h1
 refine Qx <| Q1 <| Q2 <| Q2 <| Q0 <| XR rfl rfl rfl <| XP rfl rfl rfl (Q4 rfl rfl rfl) <| Q3 <| Q1 ?_
 refine Qg (b := (decide (o36 < 0))) rfl (fun c46 => ?_) (fun c46 => ?_)
 replace h1 := Qu c46 h1
 refine Q2 <| Q0 <| XS rfl rfl rfl <| XS rfl rfl rfl <| Q3 <| Q1 <| Qw ?_
 have e := XN h1; subst e
 have e_ : _ = _ := ho1
 subst e_
 try dsimp only [Sum.elim_inl, Sum.elim_inr] at h0
 have e := XN h0; subst e
 exact hQ0 _ _ _ (.inr rfl) rfl (Qh (XM rfl (.sub (.nil _)) (XK rfl XJ)) (W8 rfl W7) W3 rfl (Nat.le_trans hv0 (W1 rfl)) rfl rfl rfl (Wo rfl Wm) rfl rfl)
 replace h1 := Qv c46 h1
 refine Qj <| Q1 <| Q2 <| Q0 <| XP rfl rfl rfl (Q7 Z7 rfl rfl rfl) <| XR rfl rfl rfl ?_
 refine Qb h1 (fun x47 hx47 h1 => ?_)
 refine QO h1 (fun g48 h1 => ?_)
 refine XP rfl rfl rfl (Jk (α := Bool) Z6 rfl rfl hx47 g48) <| QA rfl rfl (OpOK.storeOE (α := Bool) (y' := .one (Wh true)) (v := true) Gv rfl rfl (.one (.d _)) rfl rfl hx47 rfl) <| Q3 <| Q1 <| Q0 <| XR rfl rfl rfl <| XR rfl rfl rfl <| Q9 rfl rfl (W1 rfl) (QY (α := Int) (o36) JP Xh rfl rfl (W1 rfl) (W1 rfl) rfl rfl (.cons (.d _) .nil) rfl) ?_
 refine QO h1 (fun g49 h1 => ?_)
 refine Q9 rfl rfl (W1 rfl) (QU (α := Int) JP X2 rfl rfl rfl rfl rfl (.app _ _) g49) <| XS rfl rfl rfl <| Q3 <| Qk ?_
 have e := XN h1; subst e
 refine QD ((s1.1 ++ ([o36])), (s1.2.set o36.toNat true)) (Qh (XK rfl (XK rfl (XK rfl (XK rfl XJ)))) (W8 rfl (W8 rfl (W8 rfl (W8 rfl (W8 rfl (W8 rfl W7)))))) (W4 rfl (W4 rfl W3)) rfl (Nat.le_trans hv0 (W1 rfl)) rfl rfl rfl (Wo rfl (Wp rfl rfl (Wn rfl (Wp rfl rfl (Wo rfl (Wp rfl rfl Wm)))))) rfl rfl) ho1
 replace h1 := Qv c35 h1
 refine QN <| Qf <| Qf ?_
 have e := XN h1; subst e
 have e_ : _ = _ := ho1
 subst e_
 exact QF (s1.1, s1.2) (Qh (XK rfl XJ) (W8 rfl (W8 rfl (W8 rfl (W8 rfl (W8 rfl (W8 rfl W7)))))) (W4 rfl (W4 rfl W3)) rfl (Nat.le_trans hv0 (W1 rfl)) rfl rfl rfl (Wo rfl (Wp rfl rfl (Wn rfl (Wp rfl rfl (Wo rfl (Wp rfl rfl Wm)))))) rfl rfl) h0
 intro o33 h0
 refine Qx <| Q1 <| Q2 <| Q0 <| XR rfl rfl rfl <| XS rfl rfl rfl <| XS rfl rfl rfl <| Q3 <| Q1 <| Qw ?_
 have e := XN h0; subst e
 exact hQ0 _ _ _ (.inr rfl) rfl (Qh (XM rfl (.sub (.app _ _ _)) (XK rfl XJ)) (W8 rfl W7) W3 rfl (Nat.le_trans hv0 (W1 rfl)) rfl rfl rfl (Wo rfl Wm) rfl rfl)
 replace hc4 : CallM Try.prog 34 [.one (.osl 0 0 nn nn)] ⟨[(0, .cells 48 (Q6 a0))], [], 1⟩ (Qr [.agg [Wf, .d (.v (.map none))], .one (Wg 8)]) ⟨[(0, .cells 48 (Q6 a0)), (1, .cells 72 [Wf, .d (.v (.map none))])], [], 5⟩ := hc4
 refine Q9 rfl rfl (W1 rfl) (QP rfl rfl rfl hc4 rfl (W8 rfl W7) W3) <| XR rfl rfl rfl <| XP rfl rfl rfl (Qe rfl rfl) <| XP rfl rfl rfl (Qe rfl rfl) <| Q9 rfl rfl (W1 rfl) (Ql YJ rfl) <| QA rfl rfl (Qi J2 rfl rfl rfl rfl (W1 rfl) rfl) <| XS rfl rfl rfl <| Q3 <| Q1 <| Q2 <| Q2 <| Q0 <| XR rfl rfl rfl <| XP rfl rfl rfl (Q4 rfl rfl rfl) ?_
 refine Q3 <| Q1 ?_
 refine Qg rfl (fun _ => ?_) (fun h => nomatch h)
 refine Q2 <| Q0 <| XR rfl rfl rfl <| XS rfl rfl rfl <| XS rfl rfl rfl <| Q3 <| Q1 <| Qw ?_
 have e := XN h0; subst e
 exact hQ0 _ _ _ (.inr rfl) rfl (Qh (XM rfl (.sub (.nil _)) (XK rfl XJ)) (W8 rfl W7) W3 rfl (Nat.le_trans hv0 (W1 rfl)) rfl rfl rfl (Wo rfl Wm) rfl rfl)
 replace hc4 : CallM Try.prog 34 [.one (.osl 0 0 nn nn)] ⟨[(0, .cells 48 (Q6 a0))], [], 1⟩ (Qr [.agg [Wf, .d (.v (.map none))], .one (Wg 9)]) ⟨[(0, .cells 48 (Q6 a0)), (1, .cells 72 [Wf, .d (.v (.map none))])], [], 7⟩ := hc4
 refine Q9 rfl rfl (W1 rfl) (QP rfl rfl rfl hc4 rfl (W8 rfl W7) W3) <| XR rfl rfl rfl <| XP rfl rfl rfl (Qe rfl rfl) <| XP rfl rfl rfl (Qe rfl rfl) <| Q9 rfl rfl (W1 rfl) (Ql YJ rfl) <| QA rfl rfl (Qi J2 rfl rfl rfl rfl (W1 rfl) rfl) <| XS rfl rfl rfl <| Q3 <| Q1 <| Q2 <| Q2 <| Q0 <| XR rfl rfl rfl <| XP rfl rfl rfl (Q4 rfl rfl rfl) ?_
 refine Q3 <| Q1 ?_
 refine Qg rfl (fun _ => ?_) (fun h => nomatch h)
 refine Q2 <| Q0 <| XR rfl rfl rfl <| XS rfl rfl rfl <| XS rfl rfl rfl <| Q3 <| Q1 <| Qw ?_
 have e := XN h0; subst e
 exact hQ0 _ _ _ (.inr rfl) rfl (Qh (XM rfl (.sub (.nil _)) (XK rfl XJ)) (W8 rfl W7) W3 rfl (Nat.le_trans hv0 (W1 rfl)) rfl rfl rfl (Wo rfl Wm) rfl rfl)
end Go.Proofs.Ytijcchddnnnmdaa
namespace Go.Proofs.Ytijcchddnnnmdaa
open Go.RowKit Go.Shelf
set_option linter.unusedSimpArgs false
set_option linter.unusedVariables false
theorem en_15 : J9 Try.prog 15 := enters_of Try.func15 (by kernel_rfl) rfl
def m56f11_l0 (x6 : List Int) (rc : Int × Nat × (List Bool) × (List (List Int)) → Option ((List Bool))) (a1 : Nat) (a3 : List (List Int)) (s1 : Int × (List Bool)) : Option (LO (Int × (List Bool)) (((List Bool)))) :=
 cond (decide (s1.1 < (x6.length : Int)))
   (Option.bind (J1 x6 s1.1) fun (x9 : Int) =>
 Option.bind (rc (x9, a1, s1.2, a3)) fun (x10 : (List Bool)) =>
 some (.next ((QW (s1.1 + 1)), x10)))
   (some (.done s1.2))
def m56f11s (rc : Int × Nat × (List Bool) × (List (List Int)) → Option ((List Bool))) (a0 : Int) (a1 : Nat) (a2 : List Bool) (a3 : List (List Int)) : Option ((List Bool)) :=
 Option.bind (J1 a2 a0) fun (x1 : Bool) =>
 Qm (Nat.beq a2.length a1)
 (cond x1
   (some a2)
   (Option.bind (J1 a2 a0) fun (x4 : Bool) =>
 Qm (Nat.beq a2.length a1)
 (Option.bind (J1 a3 a0) fun (x6 : List Int) =>
 Option.bind (Qo (m56f11_l0 x6 rc a1 a3) QB (0, (a2.set a0.toNat true))) (fun (o7 : (List Bool)) => some o7))))
def m56f11F (rc : Int × Nat × (List Bool) × (List (List Int)) → Option ((List Bool))) (u : Int × Nat × (List Bool) × (List (List Int))) : Option ((List Bool)) := m56f11s rc u.1 u.2.1 u.2.2.1 u.2.2.2
def GD (a0 : Int) (a1 : Nat) (a2 : List Bool) (a3 : List (List Int)) : Option ((List Bool)) := Yn m56f11F QB (a0, a1, a2, a3)
set_option maxRecDepth 100000 in
set_option maxHeartbeats 2000000 in
theorem m56f11s_ok (rc : Int × Nat × (List Bool) × (List (List Int)) → Option ((List Bool))) (H : ∀ (a0 : Int) (a1 : Nat) (a2 : List Bool) (a3 : List (List Int)) (r : (List Bool)), rc (a0, a1, a2, a3) = some r → CallM Try.prog 56 [.one (Wg a0), .one (.ptr 0 0), .one (.ptr 2 0), .one (.ptr 4 0)] ⟨[(0, .cells 75 [.osl 1 0 a1 a1]), (1, .cells 4 (Q6 a2)), (2, .cells 57 [Wi 3 a3]), (4, .cells 106 [.fn 56 [(0, 0), (2, 0), (4, 0)]])], [(3, some ⟨54, 1, (Enc.encL a3).length, []⟩)], 5⟩ (Qr []) ⟨[(0, .cells 75 [.osl 1 0 a1 a1]), (1, .cells 4 (Q6 r)), (2, .cells 57 [Wi 3 a3]), (4, .cells 106 [.fn 56 [(0, 0), (2, 0), (4, 0)]])], [(3, some ⟨54, 1, (Enc.encL a3).length, []⟩)], 5⟩) (a0 : Int) (a1 : Nat) (a2 : List Bool) (a3 : List (List Int)) (r : (List Bool)) (h0 : m56f11s rc a0 a1 a2 a3 = some r) : CallM Try.prog 56 [.one (Wg a0), .one (.ptr 0 0), .one (.ptr 2 0), .one (.ptr 4 0)] ⟨[(0, .cells 75 [.osl 1 0 a1 a1]), (1, .cells 4 (Q6 a2)), (2, .cells 57 [Wi 3 a3]), (4, .cells 106 [.fn 56 [(0, 0), (2, 0), (4, 0)]])], [(3, some ⟨54, 1, (Enc.encL a3).length, []⟩)], 5⟩ (Qr []) ⟨[(0, .cells 75 [.osl 1 0 a1 a1]), (1, .cells 4 (Q6 r)), (2, .cells 57 [Wi 3 a3]), (4, .cells 106 [.fn 56 [(0, 0), (2, 0), (4, 0)]])], [(3, some ⟨54, 1, (Enc.encL a3).length, []⟩)], 5⟩ := by
 unfold m56f11s at h0
 refine QM ⟨[], [(0, .cells 75 [.osl 1 0 a1 a1]), (1, .cells 4 (Q6 r)), (2, .cells 57 [Wi 3 a3]), (4, .cells 106 [.fn 56 [(0, 0), (2, 0), (4, 0)]])], [(3, some ⟨54, 1, (Enc.encL a3).length, []⟩)], 5, 27, []⟩ rfl rfl en_56 (W1 rfl) rfl .nil (fun w0 M V0 Q hv0 hQ0 => ?_)
 simp only [Jc]
 refine Q2 <| Q2 <| Q0 <| XP rfl rfl rfl (Q7 Z7 rfl rfl rfl) <| XR rfl rfl rfl ?_
 refine Qb h0 (fun x1 hx1 h0 => ?_)
 refine QO h0 (fun g2 h0 => ?_)
 refine XP rfl rfl rfl (Jk (α := Bool) Z6 rfl rfl hx1 g2) <| XP rfl rfl rfl (YI (α := Bool) (m := a0) (f := 0) Gv rfl rfl hx1 rfl) <| Q3 <| Q1 ?_
 refine Qg (b := x1) rfl (fun c3 => ?_) (fun c3 => ?_)
 replace h0 := Qu c3 h0
 refine Qw ?_
 have e := XN h0; subst e
 exact hQ0 _ _ _ (.inr rfl) rfl (Qh XJ (W8 rfl (W8 rfl (W8 rfl (W8 rfl W7)))) (W4 rfl W3) rfl (Nat.le_trans hv0 (W1 rfl)) rfl rfl rfl (Wp rfl rfl (Wo rfl (Wp rfl rfl (Wp rfl rfl Wm)))) rfl rfl)
 replace h0 := Qv c3 h0
 refine Qj <| Q1 <| Q2 <| Q0 <| XP rfl rfl rfl (Q7 Z7 rfl rfl rfl) <| XR rfl rfl rfl ?_
 refine Qb h0 (fun x4 hx4 h0 => ?_)
 refine QO h0 (fun g5 h0 => ?_)
 refine XP rfl rfl rfl (Jk (α := Bool) Z6 rfl rfl hx4 g5) <| QA rfl rfl (OpOK.storeOE (α := Bool) (y' := .one (Wh true)) (v := true) Gv rfl rfl (.one (.d _)) rfl rfl hx4 rfl) <| Q3 <| Q1 <| Q2 <| Q0 <| XP rfl rfl rfl (Q7 JV rfl rfl rfl) <| XR rfl rfl rfl ?_
 refine Qb h0 (fun x6 hx6 h0 => ?_)
 refine XP rfl rfl rfl (Qq (α := List Int) Y3 rfl (.app _ _) rfl hx6) <| XP rfl rfl rfl (QK Ga rfl rfl) <| XP rfl rfl rfl (Qy (α := Int) JP rfl (.d _)) <| XR rfl rfl rfl <| Q3 <| Q1 <| Qd ?_
 refine QI 0 (fun (o7 : (List Bool)) => ⟨[], [(0, .cells 75 [.osl 1 0 a1 a1]), (1, .cells 4 (Q6 o7)), (2, .cells 57 [Wi 3 a3]), (4, .cells 106 [.fn 56 [(0, 0), (2, 0), (4, 0)]])], [(3, some ⟨54, 1, (Enc.encL a3).length, []⟩)], 5, 27, []⟩) (fun (o7 : (List Bool)) => (some o7) = some r) ?_ ?_
 refine Qb h0 (fun o8 hl1 h0 => ?_)
 refine QH (m56f11_l0 x6 rc a1 a3) (fun s1 => ⟨[(3, .v (.one (.ptr 4 0))), (17, .v (.one (We x6))), (18, .v (.one (Wg (x6.length : Int)))), (19, .v (.one (Wg s1.1)))], [(0, .cells 75 [.osl 1 0 a1 a1]), (1, .cells 4 (Q6 s1.2)), (2, .cells 57 [Wi 3 a3]), (4, .cells 106 [.fn 56 [(0, 0), (2, 0), (4, 0)]])], [(3, some ⟨54, 1, (Enc.encL a3).length, []⟩)], 5, 27, []⟩) (0, (a2.set a0.toNat true)) o8 (Qh (XK rfl (XK rfl (XK rfl (XK rfl XJ)))) (W8 rfl (W8 rfl (W8 rfl (W8 rfl W7)))) (W4 rfl W3) rfl (Nat.le_trans hv0 (W1 rfl)) rfl rfl rfl (Wp rfl rfl (Wo rfl (Wp rfl rfl (Wp rfl rfl Wm)))) rfl rfl) hl1 (fun s1 n1 oo1 h1 ho1 => ?_)
 unfold m56f11_l0 at h1
 refine Q2 <| Q0 <| XP rfl rfl rfl (Q4 rfl rfl rfl) <| Q3 <| Q1 <| Q2 ?_
 refine Qg (b := (decide (s1.1 < (x6.length : Int)))) rfl (fun c9 => ?_) (fun c9 => ?_)
 replace h1 := Qu c9 h1
 refine Qj <| Q1 <| Q2 <| Qd <| Q2 <| Q0 ?_
 refine Qb h1 (fun x10 hx10 h1 => ?_)
 refine XP rfl rfl rfl (Qq (α := Int) JP rfl (.d _) rfl hx10) <| XP rfl rfl rfl (QK Gb rfl rfl) <| XS rfl rfl rfl <| Q3 <| Q1 <| Q0 <| XP rfl rfl rfl (Q7 ZG rfl rfl rfl) <| XR rfl rfl rfl ?_
 refine Qb h1 (fun x11 hx11 h1 => ?_)
 refine Q9 rfl rfl (W1 rfl) (QS (hp1' := [(0, .cells 75 [.osl 1 0 a1 a1]), (1, .cells 4 (Q6 x11)), (2, .cells 57 [Wi 3 a3]), (4, .cells 106 [.fn 56 [(0, 0), (2, 0), (4, 0)]])]) (tk1' := [(3, some ⟨54, 1, (Enc.encL a3).length, []⟩)]) (hpF := []) (tkF := []) (res2 := Qr []) (nx2 := 5) [0, 1, 2, 3, 4] rfl rfl (H x10 a1 s1.2 a3 x11 hx11) rfl rfl (XW rfl rfl (XV rfl (XW rfl rfl (XW rfl rfl XT)))) rfl rfl (Wb rfl (Wd rfl (Wb rfl (Wb rfl Wa)))) (W6 rfl W5) W7 W3 rfl rfl rfl rfl rfl (Wp rfl rfl (Wo rfl (Wp rfl rfl (Wp rfl rfl Wm)))) rfl rfl rfl rfl) <| Q3 <| Qk <| Q1 <| Q0 <| XP rfl rfl rfl (Q4 rfl rfl rfl) <| XR rfl rfl rfl <| Q3 ?_
 have e := XN h1; subst e
 refine QD ((QW (s1.1 + 1)), x11) (Qh (XK rfl (XK rfl (XK rfl (XK rfl XJ)))) (W8 rfl (W8 rfl (W8 rfl (W8 rfl W7)))) (W4 rfl W3) rfl (Nat.le_trans hv0 (W1 rfl)) rfl rfl rfl (Wp rfl rfl (Wo rfl (Wp rfl rfl (Wp rfl rfl Wm)))) rfl rfl) ho1
 replace h1 := Qv c9 h1
 refine QN <| Qf <| Qf ?_
 have e := XN h1; subst e
 have e_ : _ = _ := ho1
 subst e_
 exact QF s1.2 (Qh XJ (W8 rfl (W8 rfl (W8 rfl (W8 rfl W7)))) (W4 rfl W3) rfl (Nat.le_trans hv0 (W1 rfl)) rfl rfl rfl (Wp rfl rfl (Wo rfl (Wp rfl rfl (Wp rfl rfl Wm)))) rfl rfl) h0
 intro o7 h0
 refine Qx ?_
 have e := XN h0; subst e
 exact hQ0 _ _ _ (.inl rfl) rfl (Qh XJ (W8 rfl (W8 rfl (W8 rfl (W8 rfl W7)))) (W4 rfl W3) rfl (Nat.le_trans hv0 (W1 rfl)) rfl rfl rfl (Wp rfl rfl (Wo rfl (Wp rfl rfl (Wp rfl rfl Wm)))) rfl rfl)
theorem m56f11_all (n : Nat) (u : Int × Nat × (List Bool) × (List (List Int))) (r : (List Bool)) (h0 : Yn m56f11F n u = some r) : CallM Try.prog 56 [.one (Wg u.1), .one (.ptr 0 0), .one (.ptr 2 0), .one (.ptr 4 0)] ⟨[(0, .cells 75 [.osl 1 0 u.2.1 u.2.1]), (1, .cells 4 (Q6 u.2.2.1)), (2, .cells 57 [Wi 3 u.2.2.2]), (4, .cells 106 [.fn 56 [(0, 0), (2, 0), (4, 0)]])], [(3, some ⟨54, 1, (Enc.encL u.2.2.2).length, []⟩)], 5⟩ (Qr []) ⟨[(0, .cells 75 [.osl 1 0 u.2.1 u.2.1]), (1, .cells 4 (Q6 r)), (2, .cells 57 [Wi 3 u.2.2.2]), (4, .cells 106 [.fn 56 [(0, 0), (2, 0), (4, 0)]])], [(3, some ⟨54, 1, (Enc.encL u.2.2.2).length, []⟩)], 5⟩ :=
 Z0 (C := fun u r => CallM Try.prog 56 [.one (Wg u.1), .one (.ptr 0 0), .one (.ptr 2 0), .one (.ptr 4 0)] ⟨[(0, .cells 75 [.osl 1 0 u.2.1 u.2.1]), (1, .cells 4 (Q6 u.2.2.1)), (2, .cells 57 [Wi 3 u.2.2.2]), (4, .cells 106 [.fn 56 [(0, 0), (2, 0), (4, 0)]])], [(3, some ⟨54, 1, (Enc.encL u.2.2.2).length, []⟩)], 5⟩ (Qr []) ⟨[(0, .cells 75 [.osl 1 0 u.2.1 u.2.1]), (1, .cells 4 (Q6 r)), (2, .cells 57 [Wi 3 u.2.2.2]), (4, .cells 106 [.fn 56 [(0, 0), (2, 0), (4, 0)]])], [(3, some ⟨54, 1, (Enc.encL u.2.2.2).length, []⟩)], 5⟩) (fun rc H u r h => m56f11s_ok rc (fun a0 a1 a2 a3 r h => H (a0, a1, a2, a3) r h) u.1 u.2.1 u.2.2.1 u.2.2.2 r h) n u r h0
theorem m56f11_ok (a0 : Int) (a1 : Nat) (a2 : List Bool) (a3 : List (List Int)) (r : (List Bool)) (h0 : GD a0 a1 a2 a3 = some r) : CallM Try.prog 56 [.one (Wg a0), .one (.ptr 0 0), .one (.ptr 2 0), .one (.ptr 4 0)] ⟨[(0, .cells 75 [.osl 1 0 a1 a1]), (1, .cells 4 (Q6 a2)), (2, .cells 57 [Wi 3 a3]), (4, .cells 106 [.fn 56 [(0, 0), (2, 0), (4, 0)]])], [(3, some ⟨54, 1, (Enc.encL a3).length, []⟩)], 5⟩ (Qr []) ⟨[(0, .cells 75 [.osl 1 0 a1 a1]), (1, .cells 4 (Q6 r)), (2, .cells 57 [Wi 3 a3]), (4, .cells 106 [.fn 56 [(0, 0), (2, 0), (4, 0)]])], [(3, some ⟨54, 1, (Enc.encL a3).length, []⟩)], 5⟩ := m56f11_all QB (a0, a1, a2, a3) r h0
def m15_l0 (x9 : (List Wy)) (s2 : Int × (Qc Wy Int)) (s3 : Int × (Qc Wy Int)) : Option (LO (Int × (Qc Wy Int)) (((Qc Wy Int)) ⊕ (((List (List Int)) × (Qc Wy Int)) ⊕ Unit ⊕ Unit))) :=
 cond (decide (s3.1 < (x9.length : Int)))
   (Option.bind (J1 x9 s3.1) fun (x12 : Wy) =>
 cond (Jr s3.2 x12)
   (some (.done (.inr (.inr (.inl ())))))
   (some (.next ((QW (s3.1 + 1)), (JR s3.2 x12 s2.1)))))
   (some (.done (.inl s3.2)))
def m15_l1 (a0 : List Dcl) (s2 : Int × (Qc Wy Int)) : Option (LO (Int × (Qc Wy Int)) (((Qc Wy Int)) ⊕ (((List (List Int)) × (Qc Wy Int)) ⊕ Unit ⊕ Unit))) :=
 cond (decide (s2.1 < (a0.length : Int)))
   (Option.bind (J1 a0 s2.1) fun (x8 : Dcl) =>
 Option.bind (X8 x8) fun (x9 : (List Wy)) =>
 Option.bind (Qo (m15_l0 x9 s2) QB (0, s2.2)) (Sum.elim (fun (o10 : (Qc Wy Int)) => some (.next ((QW (s2.1 + 1)), o10))) (fun o => some (.done (.inr o)))))
   (some (.done (.inl s2.2)))
def m15_l2 (x10 : (List Wy)) (o6 : (Qc Wy Int)) (s3 : (List Int) × Int) : Option (LO ((List Int) × Int) (((List Int)) ⊕ (((List (List Int)) × (Qc Wy Int)) ⊕ Unit ⊕ Unit))) :=
 cond (decide (s3.2 < (x10.length : Int)))
   (Option.bind (J1 x10 s3.2) fun (x13 : Wy) =>
 cond (!(Jr o6 x13))
   (some (.done (.inr (.inr (.inr ())))))
   (Qm (Nat.ble (s3.1.length + ([(J7 o6 x13)]).length) 1000000000)
 (some (.next ((s3.1 ++ ([(J7 o6 x13)])), (QW (s3.2 + 1)))))))
   (some (.done (.inl s3.1)))
def GH (a0 : List Dcl) (o6 : (Qc Wy Int)) (s2 : Int × (List (List Int))) : Option (LO (Int × (List (List Int))) (((List (List Int))) ⊕ (((List (List Int)) × (Qc Wy Int)) ⊕ Unit ⊕ Unit))) :=
 cond (decide (s2.1 < (a0.length : Int)))
   (Option.bind (J1 a0 s2.1) fun (x9 : Dcl) =>
 Option.bind (Xe x9) fun (x10 : (List Wy)) =>
 Option.bind (Qo (m15_l2 x10 o6) QB (([] : List Int), 0)) (Sum.elim (fun (o11 : (List Int)) => Option.bind (YZ o11) fun (x12 : List Int) =>
 Option.bind (JM x12 ((Enc.encL o11).length)) fun (x13 : List Int) =>
 Qm (Nat.ble (s2.2.length + ([x13]).length) 1000000000)
 (some (.next ((QW (s2.1 + 1)), (s2.2 ++ ([x13])))))) (fun o => some (.done (.inr o)))))
   (some (.done (.inl s2.2)))
def GG (a1 : List Wy) (y1 : (List (List Int)) × (Qc Wy Int)) (s2 : Int × (List Bool)) : Option (LO (Int × (List Bool)) (((List Bool)) ⊕ (Unit ⊕ ((List Bool))))) :=
 cond (decide (s2.1 < (a1.length : Int)))
   (Option.bind (J1 a1 s2.1) fun (x37 : Wy) =>
 cond (!(Jr y1.2 x37))
   (some (.done (.inr (.inl ()))))
   (Option.bind (GD (J7 y1.2 x37) ((y1.1.length : Int).toNat) s2.2 y1.1) fun (x39 : (List Bool)) =>
 some (.next ((QW (s2.1 + 1)), x39))))
   (some (.done (.inl s2.2)))
def Gl (a0 : List Dcl) (y31 : (List Bool)) (y1 : (List (List Int)) × (Qc Wy Int)) (s1 : (List Dcl) × Int) : Option (LO ((List Dcl) × Int) (((List Dcl)))) :=
 cond (decide (s1.2 < (a0.length : Int)))
   (Option.bind (J1 a0 s1.2) fun (x43 : Dcl) =>
 Option.bind (J1 y31 s1.2) fun (x44 : Bool) =>
 Qm (Nat.beq y31.length ((y1.1.length : Int).toNat))
 (cond x44
   (Qm (Nat.ble (s1.1.length + ([x43]).length) 1000000000)
 (some (.next ((s1.1 ++ ([x43])), (QW (s1.2 + 1))))))
   (some (.next (s1.1, (QW (s1.2 + 1)))))))
   (some (.done s1.1))
def Xq (a0 : List Dcl) (a1 : List Wy) : Option ((List Dcl) × Int) :=
 Option.bind (Option.bind (Qo (m15_l1 a0) QB (0, gmNil)) (Sum.elim (fun (o6 : (Qc Wy Int)) => Option.bind (Qo (GH a0 o6) QB (0, ([] : List (List Int)))) (Sum.elim (fun (o7 : (List (List Int))) => some (.inl (o7, o6))) (fun o => some o))) (fun o => some o))) (Sum.elim (fun (y1 : (List (List Int)) × (Qc Wy Int)) => Option.bind (Qm (cond (decide (0 ≤ (y1.1.length : Int))) (Nat.ble (1 * (y1.1.length : Int).toNat) 281474976710656) false)
 (Option.bind (Qo (GG a1 y1) QB (0, (List.replicate (y1.1.length : Int).toNat false))) (Sum.elim (fun (o35 : (List Bool)) => some (.inr o35)) (fun o => some o)))) (Sum.elim (fun (y30 : Unit) => some (([] : List Dcl), 9)) (fun (y31 : (List Bool)) => Option.bind (Qo (Gl a0 y31 y1) QB (([] : List Dcl), 0)) (fun (o41 : (List Dcl)) => some (o41, 0))))) (Sum.elim (fun (y2 : Unit) => some (([] : List Dcl), 8)) (fun (y3 : Unit) => some (([] : List Dcl), 9))))
set_option maxRecDepth 100000 in
set_option maxHeartbeats 2000000 in
theorem m15_ok (a0 : List Dcl) (a1 : List Wy) (r : (List Dcl) × Int) (h0 : Xq a0 a1 = some r) : Fun Try.prog 15 [.one (We a0), .one (We a1)] (Qr [.one (We r.1), .one (Wg r.2)]) := by
 unfold Xq at h0
 refine Jd 9 48 Try.func15 rfl en_15 rfl (W1 rfl) (fun S w => ?_)
 simp only [Jc]
 refine Q2 <| Q0 <| XS rfl rfl rfl <| XS rfl rfl rfl <| Q3 <| Q1 <| Q2 <| Q0 <| XR rfl rfl rfl ?_
 refine Qb h0 (fun y5 h1 h0 => ?_)
 have hc4 : CallM Try.prog 34 [.one (We a0)] ⟨[], [], 0⟩ (Qr (((Sum.elim (fun (y1 : (List (List Int)) × (Qc Wy Int)) => ([.agg [Wi 3 y1.1, .mp 1], .one (Wg 0)] : List AV)) (Sum.elim (fun (y2 : Unit) => ([.agg [Wf, .d (.v (.map none))], .one (Wg 8)] : List AV)) (fun (y3 : Unit) => ([.agg [Wf, .d (.v (.map none))], .one (Wg 9)] : List AV))))) y5)) ⟨(((Sum.elim (fun (y1 : (List (List Int)) × (Qc Wy Int)) => (⟨[(2, .v (.one (.ptr 0 0))), (3, .v (.one (Wg 0)))], [(0, .cells 72 [Wi 3 y1.1, .mp 1]), (1, .mp (QJ y1.2.1) y1.2.2)], [(3, some ⟨54, 1, (Enc.encL y1.1).length, []⟩)], 4, 88, []⟩ : St)) (Sum.elim (fun (y2 : Unit) => (⟨[(2, .v (.one (.ptr 0 0))), (3, .v (.one (Wg 8)))], [(0, .cells 72 [Wf, .d (.v (.map none))])], [], 4, 88, []⟩ : St)) (fun (y3 : Unit) => (⟨[(2, .v (.one (.ptr 0 0))), (3, .v (.one (Wg 9)))], [(0, .cells 72 [Wf, .d (.v (.map none))])], [], 6, 88, []⟩ : St))))) y5).hp, (((Sum.elim (fun (y1 : (List (List Int)) × (Qc Wy Int)) => (⟨[(2, .v (.one (.ptr 0 0))), (3, .v (.one (Wg 0)))], [(0, .cells 72 [Wi 3 y1.1, .mp 1]), (1, .mp (QJ y1.2.1) y1.2.2)], [(3, some ⟨54, 1, (Enc.encL y1.1).length, []⟩)], 4, 88, []⟩ : St)) (Sum.elim (fun (y2 : Unit) => (⟨[(2, .v (.one (.ptr 0 0))), (3, .v (.one (Wg 8)))], [(0, .cells 72 [Wf, .d (.v (.map none))])], [], 4, 88, []⟩ : St)) (fun (y3 : Unit) => (⟨[(2, .v (.one (.ptr 0 0))), (3, .v (.one (Wg 9)))], [(0, .cells 72 [Wf, .d (.v (.map none))])], [], 6, 88, []⟩ : St))))) y5).tk, (((Sum.elim (fun (y1 : (List (List Int)) × (Qc Wy Int)) => (⟨[(2, .v (.one (.ptr 0 0))), (3, .v (.one (Wg 0)))], [(0, .cells 72 [Wi 3 y1.1, .mp 1]), (1, .mp (QJ y1.2.1) y1.2.2)], [(3, some ⟨54, 1, (Enc.encL y1.1).length, []⟩)], 4, 88, []⟩ : St)) (Sum.elim (fun (y2 : Unit) => (⟨[(2, .v (.one (.ptr 0 0))), (3, .v (.one (Wg 8)))], [(0, .cells 72 [Wf, .d (.v (.map none))])], [], 4, 88, []⟩ : St)) (fun (y3 : Unit) => (⟨[(2, .v (.one (.ptr 0 0))), (3, .v (.one (Wg 9)))], [(0, .cells 72 [Wf, .d (.v (.map none))])], [], 6, 88, []⟩ : St))))) y5).nx⟩ := by
  refine JC y5 ((Sum.elim (fun (y1 : (List (List Int)) × (Qc Wy Int)) => (⟨[(2, .v (.one (.ptr 0 0))), (3, .v (.one (Wg 0)))], [(0, .cells 72 [Wi 3 y1.1, .mp 1]), (1, .mp (QJ y1.2.1) y1.2.2)], [(3, some ⟨54, 1, (Enc.encL y1.1).length, []⟩)], 4, 88, []⟩ : St)) (Sum.elim (fun (y2 : Unit) => (⟨[(2, .v (.one (.ptr 0 0))), (3, .v (.one (Wg 8)))], [(0, .cells 72 [Wf, .d (.v (.map none))])], [], 4, 88, []⟩ : St)) (fun (y3 : Unit) => (⟨[(2, .v (.one (.ptr 0 0))), (3, .v (.one (Wg 9)))], [(0, .cells 72 [Wf, .d (.v (.map none))])], [], 6, 88, []⟩ : St))))) ((Sum.elim (fun (y1 : (List (List Int)) × (Qc Wy Int)) => ([.agg [Wi 3 y1.1, .mp 1], .one (Wg 0)] : List AV)) (Sum.elim (fun (y2 : Unit) => ([.agg [Wf, .d (.v (.map none))], .one (Wg 8)] : List AV)) (fun (y3 : Unit) => ([.agg [Wf, .d (.v (.map none))], .one (Wg 9)] : List AV))))) rfl rfl GR (W1 rfl) (fun z_ => by cases z_ with
    | inl _ => rfl
    | inr z_ => exact (by cases z_ <;> rfl)) (fun z_ => by cases z_ with
    | inl _ => exact (JU J2 rfl rfl rfl rfl (Qp rfl .nil))
    | inr z_ => exact (by cases z_ with
    | inl _ => exact (JU J2 rfl rfl rfl rfl (Qp rfl .nil))
    | inr _ => exact (JU J2 rfl rfl rfl rfl (Qp rfl .nil)))) (fun w0 M V0 Q hv1 hQ1 => ?_)
  simp only [Jc]
  refine Q2 <| Q0 <| Q9 rfl rfl (W1 rfl) (Ql YJ rfl) <| XS rfl rfl rfl <| Q3 <| Q1 <| Q2 <| Q0 <| Q9 rfl rfl (W1 rfl) (JW Wy Int) <| XP rfl rfl rfl (YX YR rfl rfl rfl) <| Q9 rfl rfl (W1 rfl) (Ql YJ rfl) <| QA rfl rfl (Qi J2 rfl rfl rfl rfl (W1 rfl) rfl) <| Q3 <| Q1 ?_
  refine Q2 <| Q2 <| Q0 <| XR rfl rfl rfl <| XP rfl rfl rfl (Qy (α := Dcl) J5 rfl (.d _)) <| XR rfl rfl rfl <| Q3 <| Q1 <| Qd ?_
  refine QI 0 (fun (o6 : (Qc Wy Int)) => ⟨[(0, .v (.one (We a0))), (2, .v (.one (.ptr 0 0))), (4, .v (.one (.ptr 2 0)))], [(0, .cells 72 [Wf, .d (.v (.map none))]), (1, .mp (QJ o6.1) o6.2), (2, .cells 72 [Wf, .mp 1])], [], 3, 88, []⟩) (fun (o6 : (Qc Wy Int)) => (Option.bind (Qo (GH a0 o6) QB (0, ([] : List (List Int)))) (Sum.elim (fun (o7 : (List (List Int))) => some (.inl (o7, o6))) (fun o => some o))) = some y5) ?_ ?_
  refine Qb h1 (fun o7 hl2 h1 => ?_)
  refine QH (m15_l1 a0) (fun s2 => ⟨[(0, .v (.one (We a0))), (2, .v (.one (.ptr 0 0))), (4, .v (.one (.ptr 2 0))), (20, .v (.one (We a0))), (21, .v (.one (Wg (a0.length : Int)))), (22, .v (.one (Wg s2.1)))], [(0, .cells 72 [Wf, .d (.v (.map none))]), (1, .mp (QJ s2.2.1) s2.2.2), (2, .cells 72 [Wf, .mp 1])], [], 3, 88, []⟩) (0, gmNil) o7 (Qh (XK rfl (XK rfl (XK rfl (XK rfl (XK rfl (XK rfl XJ)))))) (W8 rfl (W8 rfl (W8 rfl W7))) W3 rfl (Nat.le_trans hv1 (W1 rfl)) rfl rfl rfl (Wp rfl rfl (Wn rfl (Wp rfl rfl Wm))) rfl rfl) hl2 (fun s2 n2 oo2 h2 ho2 => ?_)
  unfold m15_l1 at h2
  refine Q2 <| Q0 <| XP rfl rfl rfl (Q4 rfl rfl rfl) <| Q3 <| Q1 <| Q2 ?_
  refine Qg (b := (decide (s2.1 < (a0.length : Int)))) rfl (fun c8 => ?_) (fun c8 => ?_)
  replace h2 := Qu c8 h2
  refine Qj <| Q1 <| Q2 <| Qd <| Q2 <| Q0 <| XR rfl rfl rfl ?_
  refine Qb h2 (fun x9 hx9 h2 => ?_)
  refine XP rfl rfl rfl (Qq (α := Dcl) J5 rfl (.d _) rfl hx9) <| XP rfl rfl rfl (J4 (x9 : Dcl) J3 rfl) <| Q9 rfl rfl (W1 rfl) (Ql Z8 rfl) <| XS rfl rfl rfl <| QA rfl rfl (Jb (x9 : Dcl) J3 rfl rfl rfl rfl rfl) <| Q3 <| Q1 <| Q2 <| Q0 <| XP rfl rfl rfl (Jj (x9 : Dcl) J3 rfl rfl) ?_
  refine Qb h2 (fun x10 hx10 h2 => ?_)
  refine Q9 rfl rfl (W1 rfl) (Qt (K5 x9 x10 hx10) rfl (.cons (.agg (.cons (.d _) (.cons (.d _) (.cons (.d _) (.cons (.d _) (.cons (.d _) (.cons (.d _) (.cons (.d _) (.cons (.d _) (.cons (.d _) (.cons (.d _) (.cons (.d _) (.cons (.d _) (.cons (.d _) (.cons (.d _) (.cons (.d _) (.cons (.d _) (.cons (.d _) (.cons (.d _) (.cons (.d _) (.cons (.d _) (.cons (.d _) (.cons (.d _) (.cons (.d _) .nil)))))))))))))))))))))))) .nil)) <| XP rfl rfl rfl (Qy (α := Wy) QQ rfl (.d _)) <| XR rfl rfl rfl <| Q3 <| Q1 <| Qd ?_
  refine QI 2 (fun (o11 : (Qc Wy Int)) => ⟨[(0, .v (.one (We a0))), (2, .v (.one (.ptr 0 0))), (4, .v (.one (.ptr 2 0))), (20, .v (.one (We a0))), (21, .v (.one (Wg (a0.length : Int)))), (22, .v (.one (Wg s2.1)))], [(0, .cells 72 [Wf, .d (.v (.map none))]), (1, .mp (QJ o11.1) o11.2), (2, .cells 72 [Wf, .mp 1]), (3, .cells 48 (Wj x9))], [], 4, 88, []⟩) (fun (o11 : (Qc Wy Int)) => (some (.next ((QW (s2.1 + 1)), o11))) = some oo2) ?_ ?_
  refine Qb h2 (fun o12 hl3 h2 => ?_)
  refine QH (m15_l0 x10 s2) (fun s3 => ⟨[(0, .v (.one (We a0))), (2, .v (.one (.ptr 0 0))), (4, .v (.one (.ptr 2 0))), (5, .v (.one (Wg s2.1))), (20, .v (.one (We a0))), (21, .v (.one (Wg (a0.length : Int)))), (22, .v (.one (Wg s2.1))), (28, .v (.one (We x10))), (29, .v (.one (Wg (x10.length : Int)))), (30, .v (.one (Wg s3.1)))], [(0, .cells 72 [Wf, .d (.v (.map none))]), (1, .mp (QJ s3.2.1) s3.2.2), (2, .cells 72 [Wf, .mp 1]), (3, .cells 48 (Wj x9))], [], 4, 88, []⟩) (0, s2.2) o12 (Qh (XK rfl (XK rfl (XK rfl (XK rfl (XK rfl (XK rfl (XK rfl (XK rfl (XK rfl (XK rfl XJ)))))))))) (W8 rfl (W8 rfl (W8 rfl (W8 rfl W7)))) W3 rfl (Nat.le_trans hv1 (W1 rfl)) rfl rfl rfl (Wp rfl rfl (Wn rfl (Wp rfl rfl (Wp rfl rfl Wm)))) rfl rfl) hl3 (fun s3 n3 oo3 h3 ho3 => ?_)
  unfold m15_l0 at h3
  refine Q2 <| Q0 <| XP rfl rfl rfl (Q4 rfl rfl rfl) <| Q3 <| Q1 <| Q2 ?_
  refine Qg (b := (decide (s3.1 < (x10.length : Int)))) rfl (fun c13 => ?_) (fun c13 => ?_)
  replace h3 := Qu c13 h3
  refine Qj <| Q1 <| Q2 <| Qd <| Q2 <| Q0 ?_
  refine Qb h3 (fun x14 hx14 h3 => ?_)
  refine XP rfl rfl rfl (Qq (α := Wy) QQ rfl (.d _) rfl hx14) <| XP rfl rfl rfl (QK Y6 rfl rfl) <| XS rfl rfl rfl <| Q3 <| Q1 <| Q2 <| Q2 <| Q0 <| XP rfl rfl rfl (Q8 JJ rfl) <| XP rfl rfl rfl (Q7 Yw rfl rfl rfl) <| XR rfl rfl rfl <| XP rfl rfl rfl (Jo (M := s3.2) (k := x14) Yv Yb rfl rfl rfl) <| XR rfl rfl rfl <| XP rfl rfl rfl (Qe rfl rfl) ?_
  refine XP rfl rfl rfl (Qe rfl rfl) <| XS rfl rfl rfl <| XS rfl rfl rfl <| Q3 <| Q1 <| Q2 <| Q0 <| XR rfl rfl rfl <| Q3 <| Q1 ?_
  refine Qg (b := (Jr s3.2 x14)) rfl (fun c15 => ?_) (fun c15 => ?_)
  replace h3 := Qu c15 h3
  refine Q2 <| Q0 <| XP rfl rfl rfl (Y1 YR rfl ) <| QA rfl rfl (Qi J2 rfl rfl rfl rfl (W1 rfl) rfl) <| XS rfl rfl rfl <| Q3 <| Q1 <| Qw ?_
  have e := XN h3; subst e
  have e_ : _ = _ := ho3
  subst e_
  try dsimp only [Sum.elim_inl, Sum.elim_inr] at h2
  have e := XN h2; subst e
  have e_ : _ = _ := ho2
  subst e_
  try dsimp only [Sum.elim_inl, Sum.elim_inr] at h1
  have e := XN h1; subst e
  exact hQ1 _ _ _ (.inr rfl) rfl (show StLe _ _ ⟨[(2, .v (.one (.ptr 0 0))), (3, .v (.one (Wg 8)))], [(0, .cells 72 [Wf, .d (.v (.map none))])], [], 4, 88, []⟩ from (Qh (XK rfl (XK rfl XJ)) (W8 rfl W7) W3 rfl (Nat.le_trans hv1 (W1 rfl)) rfl rfl rfl (Wp rfl rfl Wm) rfl rfl))
  replace h3 := Qv c15 h3
  refine Qj <| Q1 <| Q0 <| XP rfl rfl rfl (Q8 JJ rfl) <| XP rfl rfl rfl (Q7 Yw rfl rfl rfl) <| XR rfl rfl rfl <| XR rfl rfl rfl <| QA rfl rfl (JI (M := s3.2) (k := x14) (v := s2.1) Yv rfl rfl rfl rfl rfl) <| Q3 <| Qk <| Q1 <| Q0 <| XP rfl rfl rfl (Q4 rfl rfl rfl) <| XR rfl rfl rfl ?_
  refine Q3 ?_
  have e := XN h3; subst e
  refine QD ((QW (s3.1 + 1)), (JR s3.2 x14 s2.1)) (Qh (XK rfl (XK rfl (XK rfl (XK rfl (XK rfl (XK rfl (XK rfl (XK rfl (XK rfl (XK rfl XJ)))))))))) (W8 rfl (W8 rfl (W8 rfl (W8 rfl W7)))) W3 rfl (Nat.le_trans hv1 (W1 rfl)) rfl rfl rfl (Wp rfl rfl (Wn rfl (Wp rfl rfl (Wp rfl rfl Wm)))) rfl rfl) ho3
  replace h3 := Qv c13 h3
  refine QN <| Qf <| Qf ?_
  have e := XN h3; subst e
  have e_ : _ = _ := ho3
  subst e_
  exact QF s3.2 (Qh (XK rfl (XK rfl (XK rfl (XK rfl (XK rfl (XK rfl XJ)))))) (W8 rfl (W8 rfl (W8 rfl (W8 rfl W7)))) W3 rfl (Nat.le_trans hv1 (W1 rfl)) rfl rfl rfl (Wp rfl rfl (Wn rfl (Wp rfl rfl (Wp rfl rfl Wm)))) rfl rfl) h2
  intro o11 h2
  refine Qx <| Qk <| Q1 <| Q0 <| XP rfl rfl rfl (Q4 rfl rfl rfl) <| XR rfl rfl rfl <| Q3 ?_
  have e := XN h2; subst e
  refine QD ((QW (s2.1 + 1)), o11) (Qh (XK rfl (XK rfl (XK rfl (XK rfl (XK rfl (XK rfl XJ)))))) (W8 rfl (W8 rfl (W8 rfl W7))) W3 rfl (Nat.le_trans hv1 (W1 rfl)) rfl rfl rfl (Wp rfl rfl (Wn rfl (Wp rfl rfl Wm))) rfl rfl) ho2
  replace h2 := Qv c8 h2
  refine QN <| Qf <| Qf ?_
  have e := XN h2; subst e
  have e_ : _ = _ := ho2
  subst e_
  exact QF s2.2 (Qh (XK rfl (XK rfl (XK rfl XJ))) (W8 rfl (W8 rfl (W8 rfl W7))) W3 rfl (Nat.le_trans hv1 (W1 rfl)) rfl rfl rfl (Wp rfl rfl (Wn rfl (Wp rfl rfl Wm))) rfl rfl) h1
  intro o6 h1
  refine Qx <| Q1 <| Q2 <| Q2 <| Q0 <| XR rfl rfl rfl <| XP rfl rfl rfl (Qy (α := Dcl) J5 rfl (.d _)) <| XR rfl rfl rfl <| Q3 <| Q1 <| Qd ?_
  refine QI 4 (fun (o16 : (List (List Int))) => ⟨[(2, .v (.one (.ptr 0 0))), (4, .v (.one (.ptr 2 0)))], [(0, .cells 72 [Wf, .d (.v (.map none))]), (1, .mp (QJ o6.1) o6.2), (2, .cells 72 [Wi 3 o16, .mp 1])], [(3, some ⟨54, 1, (Enc.encL o16).length, []⟩)], 4, 88, []⟩) (fun (o16 : (List (List Int))) => (some (.inl (o16, o6))) = some y5) ?_ ?_
  refine YH (i := 2) (off := 0) 54 1 rfl rfl ?_
  refine Qb h1 (fun o17 hl2 h1 => ?_)
  refine QH (GH a0 o6) (fun s2 => ⟨[(2, .v (.one (.ptr 0 0))), (4, .v (.one (.ptr 2 0))), (49, .v (.one (We a0))), (50, .v (.one (Wg (a0.length : Int)))), (51, .v (.one (Wg s2.1)))], [(0, .cells 72 [Wf, .d (.v (.map none))]), (1, .mp (QJ o6.1) o6.2), (2, .cells 72 [Wi 3 s2.2, .mp 1])], [(3, some ⟨54, 1, (Enc.encL s2.2).length, []⟩)], 4, 88, []⟩) (0, ([] : List (List Int))) o17 (Qh (XK rfl (XK rfl (XK rfl (XK rfl (XK rfl XJ))))) (W8 rfl (W8 rfl (W8 rfl W7))) (W4 rfl W3) rfl (Nat.le_trans hv1 (W1 rfl)) rfl rfl rfl (Wp rfl rfl (Wn rfl (Wp rfl rfl Wm))) rfl rfl) hl2 (fun s2 n2 oo2 h2 ho2 => ?_)
  unfold GH at h2
  refine Q2 <| Q0 <| XP rfl rfl rfl (Q4 rfl rfl rfl) <| Q3 <| Q1 <| Q2 ?_
  refine Qg (b := (decide (s2.1 < (a0.length : Int)))) rfl (fun c18 => ?_) (fun c18 => ?_)
  replace h2 := Qu c18 h2
  refine Qj <| Q1 <| Q2 <| Qd <| Q2 <| Q0 ?_
  refine Qb h2 (fun x19 hx19 h2 => ?_)
  refine XP rfl rfl rfl (Qq (α := Dcl) J5 rfl (.d _) rfl hx19) <| XP rfl rfl rfl (J4 (x19 : Dcl) J3 rfl) <| Q9 rfl rfl (W1 rfl) (Ql Z8 rfl) <| QA rfl rfl (Jb (x19 : Dcl) J3 rfl rfl rfl rfl rfl) <| Q3 <| Q1 <| Q2 <| Q0 <| XS rfl rfl rfl <| Q3 <| Q1 <| Q2 <| Q2 <| Q0 ?_
  refine XP rfl rfl rfl (Jj (x19 : Dcl) J3 rfl rfl) ?_
  refine Qb h2 (fun x20 hx20 h2 => ?_)
  refine Q9 rfl rfl (W1 rfl) (Qt (Gh x19 x20 hx20) rfl (.cons (.agg (.cons (.d _) (.cons (.d _) (.cons (.d _) (.cons (.d _) (.cons (.d _) (.cons (.d _) (.cons (.d _) (.cons (.d _) (.cons (.d _) (.cons (.d _) (.cons (.d _) (.cons (.d _) (.cons (.d _) (.cons (.d _) (.cons (.d _) (.cons (.d _) (.cons (.d _) (.cons (.d _) (.cons (.d _) (.cons (.d _) (.cons (.d _) (.cons (.d _) (.cons (.d _) .nil)))))))))))))))))))))))) .nil)) <| XP rfl rfl rfl (Qy (α := Wy) QQ rfl (.d _)) <| XR rfl rfl rfl <| Q3 <| Q1 <| Qd ?_
  refine QI 6 (fun (o21 : (List Int)) => ⟨[(2, .v (.one (.ptr 0 0))), (4, .v (.one (.ptr 2 0))), (13, .v (.one (.apv 5 1 ((Enc.encL o21).length) []))), (49, .v (.one (We a0))), (50, .v (.one (Wg (a0.length : Int)))), (51, .v (.one (Wg s2.1)))], [(0, .cells 72 [Wf, .d (.v (.map none))]), (1, .mp (QJ o6.1) o6.2), (2, .cells 72 [Wi 3 s2.2, .mp 1]), (4, .cells 48 (Wj x19))], [(3, some ⟨54, 1, (Enc.encL s2.2).length, []⟩), (5, some ⟨3, 1, (Enc.encL o21).length, (Enc.encL o21).flatten⟩)], 6, 88, []⟩) (fun (o21 : (List Int)) => (Option.bind (YZ o21) fun (x22 : List Int) =>
    Option.bind (JM x22 ((Enc.encL o21).length)) fun (x23 : List Int) =>
    Qm (Nat.ble (s2.2.length + ([x23]).length) 1000000000)
    (some (.next ((QW (s2.1 + 1)), (s2.2 ++ ([x23])))))) = some oo2) ?_ ?_
  refine Y0 (t := 13) 3 1 rfl <| ZY (α := Int) (t := 13) rfl rfl ?_
  refine Qb h2 (fun o22 hl3 h2 => ?_)
  refine QH (m15_l2 x20 o6) (fun s3 => ⟨[(2, .v (.one (.ptr 0 0))), (4, .v (.one (.ptr 2 0))), (13, .v (.one (.apv 5 1 ((Enc.encL s3.1).length) []))), (49, .v (.one (We a0))), (50, .v (.one (Wg (a0.length : Int)))), (51, .v (.one (Wg s2.1))), (56, .v (.one (We x20))), (57, .v (.one (Wg (x20.length : Int)))), (58, .v (.one (Wg s3.2)))], [(0, .cells 72 [Wf, .d (.v (.map none))]), (1, .mp (QJ o6.1) o6.2), (2, .cells 72 [Wi 3 s2.2, .mp 1]), (4, .cells 48 (Wj x19))], [(3, some ⟨54, 1, (Enc.encL s2.2).length, []⟩), (5, some ⟨3, 1, (Enc.encL s3.1).length, (Enc.encL s3.1).flatten⟩)], 6, 88, []⟩) (([] : List Int), 0) o22 (Qh (XK rfl (XK rfl (XK rfl (XK rfl (XK rfl (XK rfl (XK rfl (XK rfl (XK rfl XJ))))))))) (W8 rfl (W8 rfl (W8 rfl (W8 rfl W7)))) (W4 rfl (W4 rfl W3)) rfl (Nat.le_trans hv1 (W1 rfl)) rfl rfl rfl (Wp rfl rfl (Wn rfl (Wp rfl rfl (Wp rfl rfl Wm)))) rfl rfl) hl3 (fun s3 n3 oo3 h3 ho3 => ?_)
  unfold m15_l2 at h3
  refine Q2 <| Q0 <| XP rfl rfl rfl (Q4 rfl rfl rfl) <| Q3 <| Q1 <| Q2 ?_
  refine Qg (b := (decide (s3.2 < (x20.length : Int)))) rfl (fun c23 => ?_) (fun c23 => ?_)
  replace h3 := Qu c23 h3
  refine Qj <| Q1 <| Q2 <| Qd <| Q2 <| Q0 ?_
  refine Qb h3 (fun x24 hx24 h3 => ?_)
  refine XP rfl rfl rfl (Qq (α := Wy) QQ rfl (.d _) rfl hx24) <| XP rfl rfl rfl (QK Y6 rfl rfl) <| XS rfl rfl rfl <| Q3 <| Q1 <| Q2 <| Q0 <| XP rfl rfl rfl (Q8 JJ rfl) <| XP rfl rfl rfl (Q7 Yw rfl rfl rfl) <| XR rfl rfl rfl <| XP rfl rfl rfl (Jo (M := o6) (k := x24) Yv Yb rfl rfl rfl) <| XR rfl rfl rfl <| XP rfl rfl rfl (Qe rfl rfl) <| XP rfl rfl rfl (Qe rfl rfl) ?_
  refine XS rfl rfl rfl <| XS rfl rfl rfl <| Q3 <| Q1 <| Q2 <| Q2 <| Q0 <| XR rfl rfl rfl <| XP rfl rfl rfl (Jp rfl) <| Q3 <| Q1 ?_
  refine Qg (b := (!(Jr o6 x24))) rfl (fun c25 => ?_) (fun c25 => ?_)
  replace h3 := Qu c25 h3
  refine Q2 <| Q0 <| XP rfl rfl rfl (Y1 YR rfl ) <| QA rfl rfl (Qi J2 rfl rfl rfl rfl (W1 rfl) rfl) <| XS rfl rfl rfl <| Q3 <| Q1 <| Qw ?_
  have e := XN h3; subst e
  have e_ : _ = _ := ho3
  subst e_
  try dsimp only [Sum.elim_inl, Sum.elim_inr] at h2
  have e := XN h2; subst e
  have e_ : _ = _ := ho2
  subst e_
  try dsimp only [Sum.elim_inl, Sum.elim_inr] at h1
  have e := XN h1; subst e
  exact hQ1 _ _ _ (.inr rfl) rfl (show StLe _ _ ⟨[(2, .v (.one (.ptr 0 0))), (3, .v (.one (Wg 9)))], [(0, .cells 72 [Wf, .d (.v (.map none))])], [], 6, 88, []⟩ from (Qh (XK rfl (XK rfl XJ)) (W8 rfl W7) W3 rfl (Nat.le_trans hv1 (W1 rfl)) rfl rfl rfl (Wp rfl rfl Wm) rfl rfl))
  replace h3 := Qv c25 h3
  refine Qj <| Q1 <| Q0 <| XR rfl rfl rfl <| XR rfl rfl rfl <| Q9 rfl rfl (W1 rfl) (QY (α := Int) ((J7 o6 x24)) JP Xh rfl rfl (W1 rfl) (W1 rfl) rfl rfl (.cons (.d _) .nil) rfl) ?_
  refine QO h3 (fun g26 h3 => ?_)
  refine Q9 rfl rfl (W1 rfl) (Yr (α := Int) (l := s3.1) (l2 := ([(J7 o6 x24)] : List Int)) JP X2 rfl rfl rfl rfl (.app _ _) rfl g26) <| XS rfl rfl rfl <| Q3 <| Qk <| Q1 <| Q0 <| XP rfl rfl rfl (Q4 rfl rfl rfl) <| XR rfl rfl rfl <| Q3 ?_
  have e := XN h3; subst e
  refine QD ((s3.1 ++ ([(J7 o6 x24)])), (QW (s3.2 + 1))) (Qh (XK rfl (XK rfl (XK rfl (XK rfl (XK rfl (XK rfl (XK rfl (XK rfl (XK rfl XJ))))))))) (W8 rfl (W8 rfl (W8 rfl (W8 rfl W7)))) (W4 rfl (W4 rfl W3)) rfl (Nat.le_trans hv1 (W1 rfl)) rfl rfl rfl (Wp rfl rfl (Wn rfl (Wp rfl rfl (Wp rfl rfl Wm)))) rfl rfl) ho3
  replace h3 := Qv c23 h3
  refine QN <| Qf <| Qf ?_
  have e := XN h3; subst e
  have e_ : _ = _ := ho3
  subst e_
  exact QF s3.1 (Qh (XK rfl (XK rfl (XK rfl (XK rfl (XK rfl (XK rfl XJ)))))) (W8 rfl (W8 rfl (W8 rfl (W8 rfl W7)))) (W4 rfl (W4 rfl W3)) rfl (Nat.le_trans hv1 (W1 rfl)) rfl rfl rfl (Wp rfl rfl (Wn rfl (Wp rfl rfl (Wp rfl rfl Wm)))) rfl rfl) h2
  intro o21 h2
  refine Qx <| Q1 <| Q2 <| Q0 <| XR rfl rfl rfl ?_
  refine Qb h2 (fun x27 hx27 h2 => ?_)
  refine Q9 rfl rfl (W1 rfl) (QS (hp1' := []) (tk1' := [(5, some ⟨3, 1, (Enc.encL o21).length, (Enc.encL x27).flatten⟩)]) (hpF := [(0, .cells 72 [Wf, .d (.v (.map none))]), (1, .mp (QJ o6.1) o6.2), (2, .cells 72 [Wi 3 s2.2, .mp 1]), (4, .cells 48 (Wj x19))]) (tkF := [(3, some ⟨54, 1, (Enc.encL s2.2).length, []⟩)]) (res2 := Qr []) (nx2 := 6) [5] rfl rfl (ZJ o21 x27 hx27) rfl rfl XT rfl rfl Wa (W6 rfl W5) (W8 rfl (W8 rfl (W8 rfl (W8 rfl W7)))) (W4 rfl W3) rfl rfl rfl rfl rfl Wm rfl rfl rfl rfl) <| Q3 <| Q1 ?_
  refine JZ [3, 5, 7] [(0, 1), (1, 1)] mixed (by kernel_rfl) (by kernel_rfl) (by kernel_rfl) ?_
  refine RunA.rd rfl rfl rfl (Q5 (Q8 JA rfl)) rfl <| RunA.rd rfl rfl rfl (Q5 (Q7 JV rfl rfl rfl)) rfl <| RunA.rd rfl rfl rfl (Q5 (QV rfl)) rfl ?_
  refine Qb h2 (fun x28 hx28 h2 => ?_)
  refine RunA.eff rfl rfl rfl (QS (hp1' := []) (tk1' := [(6, some ⟨3, 1, (Enc.encL x28).length, []⟩)]) (hpF := [(0, .cells 72 [Wf, .d (.v (.map none))]), (1, .mp (QJ o6.1) o6.2), (2, .cells 72 [Wi 3 s2.2, .mp 1]), (4, .cells 48 (Wj x19))]) (tkF := [(3, some ⟨54, 1, (Enc.encL s2.2).length, []⟩)]) (res2 := Qr [.one (Wi 6 x28)]) (nx2 := 7) [5] rfl rfl (YE x27 ((Enc.encL o21).length) x28 hx28) rfl rfl XT rfl rfl Wa (W6 rfl W5) (W8 rfl (W8 rfl (W8 rfl (W8 rfl W7)))) (W4 rfl W3) rfl rfl rfl rfl rfl Wm rfl rfl rfl rfl) rfl <| RunA.rd rfl rfl rfl (JX (α := List Int) (x28) Y3 X6 rfl rfl (W1 rfl) rfl rfl (.cons (.app _ _ _) .nil) rfl) rfl ?_
  refine QO h2 (fun g29 h2 => ?_)
  refine RunA.eff rfl rfl rfl (QU (α := List Int) Y3 GL rfl rfl rfl rfl rfl (.d _) g29) rfl <| RunA.rd rfl rfl rfl (Q5 (Q8 JA rfl)) rfl <| RunA.eff rfl rfl rfl (Qi JV rfl rfl rfl rfl (W1 rfl) rfl) rfl ?_
  refine RunA.nil ⟨?ex, _, _, rfl, ?_⟩
  case ex => exact ⟨⟨_, rfl, _, _, rfl, rfl, rfl, .inl ⟨rfl, _, Q5 (Q8 JA rfl), rfl⟩⟩, ⟨_, rfl, _, _, rfl, rfl, rfl, .inl ⟨rfl, _, Q5 (Q7 JV rfl rfl rfl), rfl⟩⟩, trivial⟩
  refine JT (st' := ⟨[(2, .v (.one (.ptr 0 0))), (4, .v (.one (.ptr 2 0))), (49, .v (.one (We a0))), (50, .v (.one (Wg (a0.length : Int)))), (51, .v (.one (Wg s2.1)))], [(0, .cells 72 [Wf, .d (.v (.map none))]), (1, .mp (QJ o6.1) o6.2), (2, .cells 72 [Wi 3 ((s2.2 ++ ([x28])) : List (List Int)), .mp 1]), (4, .cells 48 (Wj x19))], [(3, some ⟨54, 1, (Enc.encL ((s2.2 ++ ([x28])) : List (List Int))).length, []⟩), (6, some ⟨3, 1, (Enc.encL x28).length, []⟩)], 7, 88, []⟩) (Qh (XK rfl (XK rfl (XK rfl (XK rfl (XK rfl XJ))))) (W8 rfl (W8 rfl (W8 rfl (W8 rfl W7)))) (W4 rfl (W4 rfl W3)) rfl (Nat.le_trans hv1 (W1 rfl)) rfl rfl rfl (Wp rfl rfl (Wn rfl (Wp rfl rfl (Wp rfl rfl Wm)))) rfl rfl) <| Qk <| Q1 <| Q0 <| XP rfl rfl rfl (Q4 rfl rfl rfl) <| XR rfl rfl rfl <| Q3 ?_
  have e := XN h2; subst e
  refine QD ((QW (s2.1 + 1)), (s2.2 ++ ([x28]))) (Qh (XK rfl (XK rfl (XK rfl (XK rfl (XK rfl XJ))))) (W8 rfl (W8 rfl (W8 rfl W7))) (W4 rfl W3) rfl (Nat.le_trans hv1 (W1 rfl)) rfl rfl rfl (Wp rfl rfl (Wn rfl (Wp rfl rfl Wm))) rfl rfl) ho2
  replace h2 := Qv c18 h2
  refine QN <| Qf <| Qf ?_
  have e := XN h2; subst e
  have e_ : _ = _ := ho2
  subst e_
  exact QF s2.2 (Qh (XK rfl (XK rfl XJ)) (W8 rfl (W8 rfl (W8 rfl W7))) (W4 rfl W3) rfl (Nat.le_trans hv1 (W1 rfl)) rfl rfl rfl (Wp rfl rfl (Wn rfl (Wp rfl rfl Wm))) rfl rfl) h1
  intro o16 h1
  refine Qx <| Q1 <| Q2 <| Q0 <| XP rfl rfl rfl (Qz J2 rfl rfl rfl rfl) <| QA rfl rfl (Qi J2 rfl rfl rfl rfl (W1 rfl) rfl) <| XS rfl rfl rfl <| Q3 <| Q1 <| Qw ?_
  have e := XN h1; subst e
  exact hQ1 _ _ _ (.inr rfl) rfl (show StLe _ _ ⟨[(2, .v (.one (.ptr 0 0))), (3, .v (.one (Wg 0)))], [(0, .cells 72 [Wi 3 o16, .mp 1]), (1, .mp (QJ o6.1) o6.2)], [(3, some ⟨54, 1, (Enc.encL o16).length, []⟩)], 4, 88, []⟩ from (Qh (XK rfl (XK rfl XJ)) (W8 rfl (W8 rfl W7)) (W4 rfl W3) rfl (Nat.le_trans hv1 (W1 rfl)) rfl rfl rfl (Wp rfl rfl (Wn rfl Wm)) rfl rfl))
 refine KA (C := fun q_ => CallM Try.prog 34 [.one (We a0)] ⟨[], [], 0⟩ (Qr (((Sum.elim (fun (y1 : (List (List Int)) × (Qc Wy Int)) => ([.agg [Wi 3 y1.1, .mp 1], .one (Wg 0)] : List AV)) (Sum.elim (fun (y2 : Unit) => ([.agg [Wf, .d (.v (.map none))], .one (Wg 8)] : List AV)) (fun (y3 : Unit) => ([.agg [Wf, .d (.v (.map none))], .one (Wg 9)] : List AV))))) q_)) ⟨(((Sum.elim (fun (y1 : (List (List Int)) × (Qc Wy Int)) => (⟨[(2, .v (.one (.ptr 0 0))), (3, .v (.one (Wg 0)))], [(0, .cells 72 [Wi 3 y1.1, .mp 1]), (1, .mp (QJ y1.2.1) y1.2.2)], [(3, some ⟨54, 1, (Enc.encL y1.1).length, []⟩)], 4, 88, []⟩ : St)) (Sum.elim (fun (y2 : Unit) => (⟨[(2, .v (.one (.ptr 0 0))), (3, .v (.one (Wg 8)))], [(0, .cells 72 [Wf, .d (.v (.map none))])], [], 4, 88, []⟩ : St)) (fun (y3 : Unit) => (⟨[(2, .v (.one (.ptr 0 0))), (3, .v (.one (Wg 9)))], [(0, .cells 72 [Wf, .d (.v (.map none))])], [], 6, 88, []⟩ : St))))) q_).hp, (((Sum.elim (fun (y1 : (List (List Int)) × (Qc Wy Int)) => (⟨[(2, .v (.one (.ptr 0 0))), (3, .v (.one (Wg 0)))], [(0, .cells 72 [Wi 3 y1.1, .mp 1]), (1, .mp (QJ y1.2.1) y1.2.2)], [(3, some ⟨54, 1, (Enc.encL y1.1).length, []⟩)], 4, 88, []⟩ : St)) (Sum.elim (fun (y2 : Unit) => (⟨[(2, .v (.one (.ptr 0 0))), (3, .v (.one (Wg 8)))], [(0, .cells 72 [Wf, .d (.v (.map none))])], [], 4, 88, []⟩ : St)) (fun (y3 : Unit) => (⟨[(2, .v (.one (.ptr 0 0))), (3, .v (.one (Wg 9)))], [(0, .cells 72 [Wf, .d (.v (.map none))])], [], 6, 88, []⟩ : St))))) q_).tk, (((Sum.elim (fun (y1 : (List (List Int)) × (Qc Wy Int)) => (⟨[(2, .v (.one (.ptr 0 0))), (3, .v (.one (Wg 0)))], [(0, .cells 72 [Wi 3 y1.1, .mp 1]), (1, .mp (QJ y1.2.1) y1.2.2)], [(3, some ⟨54, 1, (Enc.encL y1.1).length, []⟩)], 4, 88, []⟩ : St)) (Sum.elim (fun (y2 : Unit) => (⟨[(2, .v (.one (.ptr 0 0))), (3, .v (.one (Wg 8)))], [(0, .cells 72 [Wf, .d (.v (.map none))])], [], 4, 88, []⟩ : St)) (fun (y3 : Unit) => (⟨[(2, .v (.one (.ptr 0 0))), (3, .v (.one (Wg 9)))], [(0, .cells 72 [Wf, .d (.v (.map none))])], [], 6, 88, []⟩ : St))))) q_).nx⟩) hc4 h0 (fun y1 hc4 h0 => ?_) (fun z_ hc4 h0 => KA (C := fun q_ => CallM Try.prog 34 [.one (We a0)] ⟨[], [], 0⟩ (Qr (((Sum.elim (fun (y1 : (List (List Int)) × (Qc Wy Int)) => ([.agg [Wi 3 y1.1, .mp 1], .one (Wg 0)] : List AV)) (Sum.elim (fun (y2 : Unit) => ([.agg [Wf, .d (.v (.map none))], .one (Wg 8)] : List AV)) (fun (y3 : Unit) => ([.agg [Wf, .d (.v (.map none))], .one (Wg 9)] : List AV))))) (.inr q_))) ⟨(((Sum.elim (fun (y1 : (List (List Int)) × (Qc Wy Int)) => (⟨[(2, .v (.one (.ptr 0 0))), (3, .v (.one (Wg 0)))], [(0, .cells 72 [Wi 3 y1.1, .mp 1]), (1, .mp (QJ y1.2.1) y1.2.2)], [(3, some ⟨54, 1, (Enc.encL y1.1).length, []⟩)], 4, 88, []⟩ : St)) (Sum.elim (fun (y2 : Unit) => (⟨[(2, .v (.one (.ptr 0 0))), (3, .v (.one (Wg 8)))], [(0, .cells 72 [Wf, .d (.v (.map none))])], [], 4, 88, []⟩ : St)) (fun (y3 : Unit) => (⟨[(2, .v (.one (.ptr 0 0))), (3, .v (.one (Wg 9)))], [(0, .cells 72 [Wf, .d (.v (.map none))])], [], 6, 88, []⟩ : St))))) (.inr q_)).hp, (((Sum.elim (fun (y1 : (List (List Int)) × (Qc Wy Int)) => (⟨[(2, .v (.one (.ptr 0 0))), (3, .v (.one (Wg 0)))], [(0, .cells 72 [Wi 3 y1.1, .mp 1]), (1, .mp (QJ y1.2.1) y1.2.2)], [(3, some ⟨54, 1, (Enc.encL y1.1).length, []⟩)], 4, 88, []⟩ : St)) (Sum.elim (fun (y2 : Unit) => (⟨[(2, .v (.one (.ptr 0 0))), (3, .v (.one (Wg 8)))], [(0, .cells 72 [Wf, .d (.v (.map none))])], [], 4, 88, []⟩ : St)) (fun (y3 : Unit) => (⟨[(2, .v (.one (.ptr 0 0))), (3, .v (.one (Wg 9)))], [(0, .cells 72 [Wf, .d (.v (.map none))])], [], 6, 88, []⟩ : St))))) (.inr q_)).tk, (((Sum.elim (fun (y1 : (List (List Int)) × (Qc Wy Int)) => (⟨[(2, .v (.one (.ptr 0 0))), (3, .v (.one (Wg 0)))], [(0, .cells 72 [Wi 3 y1.1, .mp 1]), (1, .mp (QJ y1.2.1) y1.2.2)], [(3, some ⟨54, 1, (Enc.encL y1.1).length, []⟩)], 4, 88, []⟩ : St)) (Sum.elim (fun (y2 : Unit) => (⟨[(2, .v (.one (.ptr 0 0))), (3, .v (.one (Wg 8)))], [(0, .cells 72 [Wf, .d (.v (.map none))])], [], 4, 88, []⟩ : St)) (fun (y3 : Unit) => (⟨[(2, .v (.one (.ptr 0 0))), (3, .v (.one (Wg 9)))], [(0, .cells 72 [Wf, .d (.v (.map none))])], [], 6, 88, []⟩ : St))))) (.inr q_)).nx⟩) hc4 h0 (fun y2 hc4 h0 => ?_) (fun y3 hc4 h0 => ?_))
 replace hc4 : CallM Try.prog 34 [.one (We a0)] ⟨[], [], 0⟩ (Qr [.agg [Wi 3 y1.1, .mp 1], .one (Wg 0)]) ⟨[(0, .cells 72 [Wi 3 y1.1, .mp 1]), (1, .mp (QJ y1.2.1) y1.2.2)], [(3, some ⟨54, 1, (Enc.encL y1.1).length, []⟩)], 4⟩ := hc4
 refine Q9 rfl rfl (W1 rfl) (QP rfl rfl rfl hc4 rfl W7 W3) <| XR rfl rfl rfl <| XP rfl rfl rfl (Qe rfl rfl) <| XP rfl rfl rfl (Qe rfl rfl) <| Q9 rfl rfl (W1 rfl) (Ql YJ rfl) <| QA rfl rfl (Qi J2 rfl rfl rfl rfl (W1 rfl) rfl) <| XS rfl rfl rfl <| Q3 <| Q1 <| Q2 <| Q2 <| Q0 <| XR rfl rfl rfl <| XP rfl rfl rfl (Q4 rfl rfl rfl) ?_
 refine Q3 <| Q1 ?_
 refine Qg rfl (fun h => nomatch h) (fun _ => ?_)
 refine Qj <| Q1 <| Q2 <| Q0 <| XP rfl rfl rfl (Qz J2 rfl rfl rfl rfl) <| XP rfl rfl rfl (Q8 JA rfl) <| XP rfl rfl rfl (Q7 JV rfl rfl rfl) <| XR rfl rfl rfl ?_
 refine Qb h0 (fun y33 h1 h0 => ?_)
 have hc32 : CallM Try.prog 35 [.agg [Wi 3 y1.1, .mp 1], .one (Wi 3 y1.1), .one (We a1)] ⟨[(0, .cells 72 [Wi 3 y1.1, .mp 1]), (1, .mp (QJ y1.2.1) y1.2.2), (4, .cells 72 [Wi 3 y1.1, .mp 1])], [(3, some ⟨54, 1, (Enc.encL y1.1).length, []⟩)], 5⟩ (Qr (((Sum.elim (fun (y30 : Unit) => ([.one (Wf), .one (Wg 9)] : List AV)) (fun (y31 : (List Bool)) => ([.one (.osl 7 0 ((y1.1.length : Int).toNat) ((y1.1.length : Int).toNat)), .one (Wg 0)] : List AV)))) y33)) ⟨(((Sum.elim (fun (y30 : Unit) => (⟨[(6, .v (.one (Wf))), (7, .v (.one (Wg 9)))], [(0, .cells 72 [Wi 3 y1.1, .mp 1]), (1, .mp (QJ y1.2.1) y1.2.2), (4, .cells 72 [Wi 3 y1.1, .mp 1])], [(3, some ⟨54, 1, (Enc.encL y1.1).length, []⟩)], 10, 38, []⟩ : St)) (fun (y31 : (List Bool)) => (⟨[(6, .v (.one (.osl 7 0 ((y1.1.length : Int).toNat) ((y1.1.length : Int).toNat)))), (7, .v (.one (Wg 0)))], [(0, .cells 72 [Wi 3 y1.1, .mp 1]), (1, .mp (QJ y1.2.1) y1.2.2), (4, .cells 72 [Wi 3 y1.1, .mp 1]), (7, .cells 4 (Q6 y31))], [(3, some ⟨54, 1, (Enc.encL y1.1).length, []⟩)], 10, 38, []⟩ : St)))) y33).hp, (((Sum.elim (fun (y30 : Unit) => (⟨[(6, .v (.one (Wf))), (7, .v (.one (Wg 9)))], [(0, .cells 72 [Wi 3 y1.1, .mp 1]), (1, .mp (QJ y1.2.1) y1.2.2), (4, .cells 72 [Wi 3 y1.1, .mp 1])], [(3, some ⟨54, 1, (Enc.encL y1.1).length, []⟩)], 10, 38, []⟩ : St)) (fun (y31 : (List Bool)) => (⟨[(6, .v (.one (.osl 7 0 ((y1.1.length : Int).toNat) ((y1.1.length : Int).toNat)))), (7, .v (.one (Wg 0)))], [(0, .cells 72 [Wi 3 y1.1, .mp 1]), (1, .mp (QJ y1.2.1) y1.2.2), (4, .cells 72 [Wi 3 y1.1, .mp 1]), (7, .cells 4 (Q6 y31))], [(3, some ⟨54, 1, (Enc.encL y1.1).length, []⟩)], 10, 38, []⟩ : St)))) y33).tk, (((Sum.elim (fun (y30 : Unit) => (⟨[(6, .v (.one (Wf))), (7, .v (.one (Wg 9)))], [(0, .cells 72 [Wi 3 y1.1, .mp 1]), (1, .mp (QJ y1.2.1) y1.2.2), (4, .cells 72 [Wi 3 y1.1, .mp 1])], [(3, some ⟨54, 1, (Enc.encL y1.1).length, []⟩)], 10, 38, []⟩ : St)) (fun (y31 : (List Bool)) => (⟨[(6, .v (.one (.osl 7 0 ((y1.1.length : Int).toNat) ((y1.1.length : Int).toNat)))), (7, .v (.one (Wg 0)))], [(0, .cells 72 [Wi 3 y1.1, .mp 1]), (1, .mp (QJ y1.2.1) y1.2.2), (4, .cells 72 [Wi 3 y1.1, .mp 1]), (7, .cells 4 (Q6 y31))], [(3, some ⟨54, 1, (Enc.encL y1.1).length, []⟩)], 10, 38, []⟩ : St)))) y33).nx⟩ := by
  refine JC y33 ((Sum.elim (fun (y30 : Unit) => (⟨[(6, .v (.one (Wf))), (7, .v (.one (Wg 9)))], [(0, .cells 72 [Wi 3 y1.1, .mp 1]), (1, .mp (QJ y1.2.1) y1.2.2), (4, .cells 72 [Wi 3 y1.1, .mp 1])], [(3, some ⟨54, 1, (Enc.encL y1.1).length, []⟩)], 10, 38, []⟩ : St)) (fun (y31 : (List Bool)) => (⟨[(6, .v (.one (.osl 7 0 ((y1.1.length : Int).toNat) ((y1.1.length : Int).toNat)))), (7, .v (.one (Wg 0)))], [(0, .cells 72 [Wi 3 y1.1, .mp 1]), (1, .mp (QJ y1.2.1) y1.2.2), (4, .cells 72 [Wi 3 y1.1, .mp 1]), (7, .cells 4 (Q6 y31))], [(3, some ⟨54, 1, (Enc.encL y1.1).length, []⟩)], 10, 38, []⟩ : St)))) ((Sum.elim (fun (y30 : Unit) => ([.one (Wf), .one (Wg 9)] : List AV)) (fun (y31 : (List Bool)) => ([.one (.osl 7 0 ((y1.1.length : Int).toNat) ((y1.1.length : Int).toNat)), .one (Wg 0)] : List AV)))) rfl rfl en_35 (W1 rfl) (fun z_ => by cases z_ <;> rfl) (fun z_ => by cases z_ with
    | inl _ => exact (Qp rfl (Qp rfl .nil))
    | inr _ => exact (Qp rfl (Qp rfl .nil))) (fun w0 M V0 Q hv1 hQ1 => ?_)
  simp only [Jc]
  refine Q2 <| Q0 <| Q9 rfl rfl (W1 rfl) (Js rfl) <| Q9 rfl rfl (W1 rfl) (Js rfl) <| XS rfl rfl rfl <| XS rfl rfl rfl <| Q3 <| Q1 <| Q2 <| Q0 <| XP rfl rfl rfl (Q7 JV rfl rfl rfl) <| XP rfl rfl rfl (Qy (α := List Int) Y3 rfl (.app _ _)) ?_
  refine QO h1 (fun g34 h1 => ?_)
  refine Q9 rfl rfl (W1 rfl) (Zx (α := Bool) (z := false) Z6 XH rfl rfl Xs rfl rfl g34 rfl (by repeat (first | exact CLs.nil | refine CLs.cons (by first | exact .refl _ | exact .sub (.app _ _ _) | exact .sub (.nil _)) ?_))) ?_
  refine Q9 rfl rfl (W1 rfl) (Ql Xg rfl) <| QA rfl rfl (Qi Z7 rfl rfl rfl rfl (W1 rfl) rfl) <| Q3 <| Q1 <| Q2 <| Q0 <| Q9 rfl rfl (W1 rfl) (Ql z_106 rfl) <| Q3 <| Q1 <| Q2 <| Q0 <| XP rfl rfl rfl (YP rfl rfl rfl) <| QA rfl rfl (Qi ZG rfl rfl rfl rfl (W1 rfl) rfl) <| Q3 ?_
  refine Q1 <| Q2 <| Q2 <| Q0 <| XR rfl rfl rfl <| XP rfl rfl rfl (Qy (α := Wy) QQ rfl (.d _)) <| XR rfl rfl rfl <| Q3 <| Q1 <| Qd ?_
  refine QI 0 (fun (o35 : (List Bool)) => ⟨[(8, .v (.one (.ptr 8 0)))], [(0, .cells 72 [Wi 3 y1.1, .mp 1]), (1, .mp (QJ y1.2.1) y1.2.2), (4, .cells 72 [Wi 3 y1.1, .mp 1]), (5, .cells 72 [Wi 3 y1.1, .mp 1]), (6, .cells 57 [Wi 3 y1.1]), (7, .cells 4 (Q6 o35)), (8, .cells 75 [.osl 7 0 ((y1.1.length : Int).toNat) ((y1.1.length : Int).toNat)]), (9, .cells 106 [.fn 56 [(8, 0), (6, 0), (9, 0)]])], [(3, some ⟨54, 1, (Enc.encL y1.1).length, []⟩)], 10, 38, []⟩) (fun (o35 : (List Bool)) => (some (.inr o35)) = some y33) ?_ ?_
  refine Qb h1 (fun o36 hl2 h1 => ?_)
  refine QH (GG a1 y1) (fun s2 => ⟨[(3, .v (.one (.ptr 5 0))), (8, .v (.one (.ptr 8 0))), (9, .v (.one (.ptr 9 0))), (18, .v (.one (We a1))), (19, .v (.one (Wg (a1.length : Int)))), (20, .v (.one (Wg s2.1)))], [(0, .cells 72 [Wi 3 y1.1, .mp 1]), (1, .mp (QJ y1.2.1) y1.2.2), (4, .cells 72 [Wi 3 y1.1, .mp 1]), (5, .cells 72 [Wi 3 y1.1, .mp 1]), (6, .cells 57 [Wi 3 y1.1]), (7, .cells 4 (Q6 s2.2)), (8, .cells 75 [.osl 7 0 ((y1.1.length : Int).toNat) ((y1.1.length : Int).toNat)]), (9, .cells 106 [.fn 56 [(8, 0), (6, 0), (9, 0)]])], [(3, some ⟨54, 1, (Enc.encL y1.1).length, []⟩)], 10, 38, []⟩) (0, (List.replicate (y1.1.length : Int).toNat false)) o36 (Qh (XK rfl (XK rfl (XK rfl (XK rfl (XK rfl (XK rfl XJ)))))) (W8 rfl (W8 rfl (W8 rfl (W8 rfl (W8 rfl (W8 rfl (W8 rfl (W8 rfl W7)))))))) (W4 rfl W3) rfl (Nat.le_trans hv1 (W1 rfl)) rfl rfl rfl (Wp rfl rfl (Wn rfl (Wp rfl rfl (Wp rfl rfl (Wp rfl rfl (Wo rfl (Wp rfl rfl (Wp rfl rfl Wm)))))))) rfl rfl) hl2 (fun s2 n2 oo2 h2 ho2 => ?_)
  unfold GG at h2
  refine Q2 <| Q0 <| XP rfl rfl rfl (Q4 rfl rfl rfl) <| Q3 <| Q1 <| Q2 ?_
  refine Qg (b := (decide (s2.1 < (a1.length : Int)))) rfl (fun c37 => ?_) (fun c37 => ?_)
  replace h2 := Qu c37 h2
  refine Qj <| Q1 <| Q2 <| Qd <| Q2 <| Q0 ?_
  refine Qb h2 (fun x38 hx38 h2 => ?_)
  refine XP rfl rfl rfl (Qq (α := Wy) QQ rfl (.d _) rfl hx38) <| XP rfl rfl rfl (QK Y6 rfl rfl) <| XS rfl rfl rfl <| Q3 <| Q1 <| Q2 <| Q0 <| XP rfl rfl rfl (Q8 JJ rfl) <| XP rfl rfl rfl (Q7 Yw rfl rfl rfl) <| XR rfl rfl rfl <| XP rfl rfl rfl (Jo (M := y1.2) (k := x38) Yv Yb rfl rfl rfl) <| XR rfl rfl rfl <| XP rfl rfl rfl (Qe rfl rfl) <| XP rfl rfl rfl (Qe rfl rfl) ?_
  refine XS rfl rfl rfl <| XS rfl rfl rfl <| Q3 <| Q1 <| Q2 <| Q2 <| Q0 <| XR rfl rfl rfl <| XP rfl rfl rfl (Jp rfl) <| Q3 <| Q1 ?_
  refine Qg (b := (!(Jr y1.2 x38))) rfl (fun c39 => ?_) (fun c39 => ?_)
  replace h2 := Qu c39 h2
  refine Q2 <| Q0 <| XS rfl rfl rfl <| XS rfl rfl rfl <| Q3 <| Q1 <| Qw ?_
  have e := XN h2; subst e
  have e_ : _ = _ := ho2
  subst e_
  try dsimp only [Sum.elim_inl, Sum.elim_inr] at h1
  have e := XN h1; subst e
  exact hQ1 _ _ _ (.inr rfl) rfl (show StLe _ _ ⟨[(6, .v (.one (Wf))), (7, .v (.one (Wg 9)))], [(0, .cells 72 [Wi 3 y1.1, .mp 1]), (1, .mp (QJ y1.2.1) y1.2.2), (4, .cells 72 [Wi 3 y1.1, .mp 1])], [(3, some ⟨54, 1, (Enc.encL y1.1).length, []⟩)], 10, 38, []⟩ from (Qh (XK rfl (XK rfl XJ)) (W8 rfl (W8 rfl (W8 rfl W7))) (W4 rfl W3) rfl (Nat.le_trans hv1 (W1 rfl)) rfl rfl rfl (Wp rfl rfl (Wn rfl (Wp rfl rfl Wm))) rfl rfl))
  replace h2 := Qv c39 h2
  refine Qj <| Q1 <| Q0 <| XP rfl rfl rfl (Q7 ZG rfl rfl rfl) <| XR rfl rfl rfl ?_
  refine Qb h2 (fun x40 hx40 h2 => ?_)
  refine Q9 rfl rfl (W1 rfl) (QS (hp1' := [(8, .cells 75 [.osl 7 0 ((y1.1.length : Int).toNat) ((y1.1.length : Int).toNat)]), (7, .cells 4 (Q6 x40)), (6, .cells 57 [Wi 3 y1.1]), (9, .cells 106 [.fn 56 [(8, 0), (6, 0), (9, 0)]])]) (tk1' := [(3, some ⟨54, 1, (Enc.encL y1.1).length, []⟩)]) (hpF := [(0, .cells 72 [Wi 3 y1.1, .mp 1]), (1, .mp (QJ y1.2.1) y1.2.2), (4, .cells 72 [Wi 3 y1.1, .mp 1]), (5, .cells 72 [Wi 3 y1.1, .mp 1])]) (tkF := []) (res2 := Qr []) (nx2 := 10) [8, 7, 6, 3, 9] rfl rfl (m56f11_ok (J7 y1.2 x38) ((y1.1.length : Int).toNat) s2.2 y1.1 x40 hx40) rfl rfl (XW rfl rfl (XV rfl (XW rfl rfl (XW rfl rfl XT)))) rfl rfl (Wb rfl (Wd rfl (Wb rfl (Wb rfl Wa)))) (W6 rfl W5) (W8 rfl (W8 rfl (W8 rfl (W8 rfl W7)))) W3 rfl rfl rfl rfl rfl (Wp rfl rfl (Wo rfl (Wp rfl rfl (Wp rfl rfl Wm)))) rfl rfl rfl rfl) <| Q3 <| Qk <| Q1 <| Q0 <| XP rfl rfl rfl (Q4 rfl rfl rfl) <| XR rfl rfl rfl <| Q3 ?_
  have e := XN h2; subst e
  refine QD ((QW (s2.1 + 1)), x40) (Qh (XK rfl (XK rfl (XK rfl (XK rfl (XK rfl (XK rfl XJ)))))) (W8 rfl (W8 rfl (W8 rfl (W8 rfl (W8 rfl (W8 rfl (W8 rfl (W8 rfl W7)))))))) (W4 rfl W3) rfl (Nat.le_trans hv1 (W1 rfl)) rfl rfl rfl (Wp rfl rfl (Wn rfl (Wp rfl rfl (Wp rfl rfl (Wp rfl rfl (Wo rfl (Wp rfl rfl (Wp rfl rfl Wm)))))))) rfl rfl) ho2
  replace h2 := Qv c37 h2
  refine QN <| Qf <| Qf ?_
  have e := XN h2; subst e
  have e_ : _ = _ := ho2
  subst e_
  exact QF s2.2 (Qh (XK rfl XJ) (W8 rfl (W8 rfl (W8 rfl (W8 rfl (W8 rfl (W8 rfl (W8 rfl (W8 rfl W7)))))))) (W4 rfl W3) rfl (Nat.le_trans hv1 (W1 rfl)) rfl rfl rfl (Wp rfl rfl (Wn rfl (Wp rfl rfl (Wp rfl rfl (Wp rfl rfl (Wo rfl (Wp rfl rfl (Wp rfl rfl Wm)))))))) rfl rfl) h1
  intro o35 h1
  refine Qx <| Q1 <| Q2 <| Q0 <| XP rfl rfl rfl (Q7 Z7 rfl rfl rfl) <| XS rfl rfl rfl <| XS rfl rfl rfl <| Q3 <| Q1 <| Qw ?_
  have e := XN h1; subst e
  exact hQ1 _ _ _ (.inr rfl) rfl (show StLe _ _ ⟨[(6, .v (.one (.osl 7 0 ((y1.1.length : Int).toNat) ((y1.1.length : Int).toNat)))), (7, .v (.one (Wg 0)))], [(0, .cells 72 [Wi 3 y1.1, .mp 1]), (1, .mp (QJ y1.2.1) y1.2.2), (4, .cells 72 [Wi 3 y1.1, .mp 1]), (7, .cells 4 (Q6 o35))], [(3, some ⟨54, 1, (Enc.encL y1.1).length, []⟩)], 10, 38, []⟩ from (Qh (XK rfl (XK rfl XJ)) (W8 rfl (W8 rfl (W8 rfl (W8 rfl W7)))) (W4 rfl W3) rfl (Nat.le_trans hv1 (W1 rfl)) rfl rfl rfl (Wp rfl rfl (Wn rfl (Wp rfl rfl (Wo rfl Wm)))) rfl rfl))
 refine KA (C := fun q_ => CallM Try.prog 35 [.agg [Wi 3 y1.1, .mp 1], .one (Wi 3 y1.1), .one (We a1)] ⟨[(0, .cells 72 [Wi 3 y1.1, .mp 1]), (1, .mp (QJ y1.2.1) y1.2.2), (4, .cells 72 [Wi 3 y1.1, .mp 1])], [(3, some ⟨54, 1, (Enc.encL y1.1).length, []⟩)], 5⟩ (Qr (((Sum.elim (fun (y30 : Unit) => ([.one (Wf), .one (Wg 9)] : List AV)) (fun (y31 : (List Bool)) => ([.one (.osl 7 0 ((y1.1.length : Int).toNat) ((y1.1.length : Int).toNat)), .one (Wg 0)] : List AV)))) q_)) ⟨(((Sum.elim (fun (y30 : Unit) => (⟨[(6, .v (.one (Wf))), (7, .v (.one (Wg 9)))], [(0, .cells 72 [Wi 3 y1.1, .mp 1]), (1, .mp (QJ y1.2.1) y1.2.2), (4, .cells 72 [Wi 3 y1.1, .mp 1])], [(3, some ⟨54, 1, (Enc.encL y1.1).length, []⟩)], 10, 38, []⟩ : St)) (fun (y31 : (List Bool)) => (⟨[(6, .v (.one (.osl 7 0 ((y1.1.length : Int).toNat) ((y1.1.length : Int).toNat)))), (7, .v (.one (Wg 0)))], [(0, .cells 72 [Wi 3 y1.1, .mp 1]), (1, .mp (QJ y1.2.1) y1.2.2), (4, .cells 72 [Wi 3 y1.1, .mp 1]), (7, .cells 4 (Q6 y31))], [(3, some ⟨54, 1, (Enc.encL y1.1).length, []⟩)], 10, 38, []⟩ : St)))) q_).hp, (((Sum.elim (fun (y30 : Unit) => (⟨[(6, .v (.one (Wf))), (7, .v (.one (Wg 9)))], [(0, .cells 72 [Wi 3 y1.1, .mp 1]), (1, .mp (QJ y1.2.1) y1.2.2), (4, .cells 72 [Wi 3 y1.1, .mp 1])], [(3, some ⟨54, 1, (Enc.encL y1.1).length, []⟩)], 10, 38, []⟩ : St)) (fun (y31 : (List Bool)) => (⟨[(6, .v (.one (.osl 7 0 ((y1.1.length : Int).toNat) ((y1.1.length : Int).toNat)))), (7, .v (.one (Wg 0)))], [(0, .cells 72 [Wi 3 y1.1, .mp 1]), (1, .mp (QJ y1.2.1) y1.2.2), (4, .cells 72 [Wi 3 y1.1, .mp 1]), (7, .cells 4 (Q6 y31))], [(3, some ⟨54, 1, (Enc.encL y1.1).length, []⟩)], 10, 38, []⟩ : St)))) q_).tk, (((Sum.elim (fun (y30 : Unit) => (⟨[(6, .v (.one (Wf))), (7, .v (.one (Wg 9)))], [(0, .cells 72 [Wi 3 y1.1, .mp 1]), (1, .mp (QJ y1.2.1) y1.2.2), (4, .cells 72 [Wi 3 y1.1, .mp 1])], [(3, some ⟨54, 1, (Enc.encL y1.1).length, []⟩)], 10, 38, []⟩ : St)) (fun (y31 : (List Bool)) => (⟨[(6, .v (.one (.osl 7 0 ((y1.1.length : Int).toNat) ((y1.1.length : Int).toNat)))), (7, .v (.one (Wg 0)))], [(0, .cells 72 [Wi 3 y1.1, .mp 1]), (1, .mp (QJ y1.2.1) y1.2.2), (4, .cells 72 [Wi 3 y1.1, .mp 1]), (7, .cells 4 (Q6 y31))], [(3, some ⟨54, 1, (Enc.encL y1.1).length, []⟩)], 10, 38, []⟩ : St)))) q_).nx⟩) hc32 h0 (fun y30 hc32 h0 => ?_) (fun y31 hc32 h0 => ?_)
 replace hc32 : CallM Try.prog 35 [.agg [Wi 3 y1.1, .mp 1], .one (Wi 3 y1.1), .one (We a1)] ⟨[(0, .cells 72 [Wi 3 y1.1, .mp 1]), (1, .mp (QJ y1.2.1) y1.2.2), (4, .cells 72 [Wi 3 y1.1, .mp 1])], [(3, some ⟨54, 1, (Enc.encL y1.1).length, []⟩)], 5⟩ (Qr [.one (Wf), .one (Wg 9)]) ⟨[(0, .cells 72 [Wi 3 y1.1, .mp 1]), (1, .mp (QJ y1.2.1) y1.2.2), (4, .cells 72 [Wi 3 y1.1, .mp 1])], [(3, some ⟨54, 1, (Enc.encL y1.1).length, []⟩)], 10⟩ := hc32
 refine Q9 rfl rfl (W1 rfl) (QP rfl rfl rfl hc32 rfl (W8 rfl (W8 rfl (W8 rfl W7))) (W4 rfl W3)) <| XR rfl rfl rfl <| XP rfl rfl rfl (Qe rfl rfl) <| XP rfl rfl rfl (Qe rfl rfl) <| XS rfl rfl rfl <| XS rfl rfl rfl <| Q3 <| Q1 <| Q2 <| Q2 <| Q0 <| XR rfl rfl rfl <| XP rfl rfl rfl (Q4 rfl rfl rfl) <| Q3 ?_
 refine Q1 ?_
 refine Qg rfl (fun _ => ?_) (fun h => nomatch h)
 refine Q2 <| Q0 <| XR rfl rfl rfl <| XS rfl rfl rfl <| XS rfl rfl rfl <| Q3 <| Q1 <| Qw ?_
 have e := XN h0; subst e
 exact QX (fun _ _ h => h) rfl (Qp rfl (Qp rfl .nil)) (.cons (.one (.nil _)) (.cons (.one (.d _)) .nil))
 replace hc32 : CallM Try.prog 35 [.agg [Wi 3 y1.1, .mp 1], .one (Wi 3 y1.1), .one (We a1)] ⟨[(0, .cells 72 [Wi 3 y1.1, .mp 1]), (1, .mp (QJ y1.2.1) y1.2.2), (4, .cells 72 [Wi 3 y1.1, .mp 1])], [(3, some ⟨54, 1, (Enc.encL y1.1).length, []⟩)], 5⟩ (Qr [.one (.osl 7 0 ((y1.1.length : Int).toNat) ((y1.1.length : Int).toNat)), .one (Wg 0)]) ⟨[(0, .cells 72 [Wi 3 y1.1, .mp 1]), (1, .mp (QJ y1.2.1) y1.2.2), (4, .cells 72 [Wi 3 y1.1, .mp 1]), (7, .cells 4 (Q6 y31))], [(3, some ⟨54, 1, (Enc.encL y1.1).length, []⟩)], 10⟩ := hc32
 refine Q9 rfl rfl (W1 rfl) (QP rfl rfl rfl hc32 rfl (W8 rfl (W8 rfl (W8 rfl W7))) (W4 rfl W3)) <| XR rfl rfl rfl <| XP rfl rfl rfl (Qe rfl rfl) <| XP rfl rfl rfl (Qe rfl rfl) <| XS rfl rfl rfl <| XS rfl rfl rfl <| Q3 <| Q1 <| Q2 <| Q2 <| Q0 <| XR rfl rfl rfl <| XP rfl rfl rfl (Q4 rfl rfl rfl) <| Q3 ?_
 refine Q1 ?_
 refine Qg rfl (fun h => nomatch h) (fun _ => ?_)
 refine Qj <| Q1 <| Q2 <| Q0 <| XS rfl rfl rfl <| Q3 <| Q1 <| Q2 <| Q2 <| Q0 <| XR rfl rfl rfl <| XP rfl rfl rfl (Qy (α := Dcl) J5 rfl (.d _)) <| XR rfl rfl rfl <| Q3 ?_
 refine Q1 <| Qd ?_
 refine QI 0 (fun (o41 : (List Dcl)) => ⟨[(9, .v (.one (Wi 10 o41)))], [(0, .cells 72 [Wi 3 y1.1, .mp 1]), (1, .mp (QJ y1.2.1) y1.2.2), (4, .cells 72 [Wi 3 y1.1, .mp 1]), (7, .cells 4 (Q6 y31))], [(3, some ⟨54, 1, (Enc.encL y1.1).length, []⟩), (10, some ⟨48, 23, (Enc.encL o41).length, []⟩)], 11, 48, []⟩) (fun (o41 : (List Dcl)) => (some (o41, 0)) = some r) ?_ ?_
 refine Y0 (t := 9) 48 23 rfl ?_
 refine Qb h0 (fun o42 hl1 h0 => ?_)
 refine QH (Gl a0 y31 y1) (fun s1 => ⟨[(8, .v (.one (.osl 7 0 ((y1.1.length : Int).toNat) ((y1.1.length : Int).toNat)))), (9, .v (.one (Wi 10 s1.1))), (31, .v (.one (We a0))), (32, .v (.one (Wg (a0.length : Int)))), (33, .v (.one (Wg s1.2)))], [(0, .cells 72 [Wi 3 y1.1, .mp 1]), (1, .mp (QJ y1.2.1) y1.2.2), (4, .cells 72 [Wi 3 y1.1, .mp 1]), (7, .cells 4 (Q6 y31))], [(3, some ⟨54, 1, (Enc.encL y1.1).length, []⟩), (10, some ⟨48, 23, (Enc.encL s1.1).length, []⟩)], 11, 48, []⟩) (([] : List Dcl), 0) o42 (Qh (XK rfl (XK rfl (XK rfl (XK rfl (XK rfl XJ))))) (W8 rfl (W8 rfl (W8 rfl (W8 rfl W7)))) (W4 rfl (W4 rfl W3)) rfl (Nat.zero_le _) rfl rfl rfl (Wp rfl rfl (Wn rfl (Wp rfl rfl (Wo rfl Wm)))) rfl rfl) hl1 (fun s1 n1 oo1 h1 ho1 => ?_)
 unfold Gl at h1
 refine Q2 <| Q0 <| XP rfl rfl rfl (Q4 rfl rfl rfl) <| Q3 <| Q1 <| Q2 ?_
 refine Qg (b := (decide (s1.2 < (a0.length : Int)))) rfl (fun c43 => ?_) (fun c43 => ?_)
 replace h1 := Qu c43 h1
 refine Qj <| Q1 <| Q2 <| Qd <| Q2 <| Q0 <| XR rfl rfl rfl ?_
 refine Qb h1 (fun x44 hx44 h1 => ?_)
 refine XP rfl rfl rfl (Qq (α := Dcl) J5 rfl (.d _) rfl hx44) <| XP rfl rfl rfl (J4 (x44 : Dcl) J3 rfl) <| Q9 rfl rfl (W1 rfl) (Ql Z8 rfl) <| XS rfl rfl rfl <| QA rfl rfl (Jb (x44 : Dcl) J3 rfl rfl rfl rfl rfl) <| Q3 <| Q1 <| Q2 <| Q0 <| XR rfl rfl rfl <| XR rfl rfl rfl ?_
 refine Qb h1 (fun x45 hx45 h1 => ?_)
 refine QO h1 (fun g46 h1 => ?_)
 refine XP rfl rfl rfl (Jk (α := Bool) Z6 rfl rfl hx45 g46) <| XP rfl rfl rfl (YI (α := Bool) (m := s1.2) (f := 0) Gv rfl rfl hx45 rfl) <| Q3 <| Q1 ?_
 refine Qg (b := x45) rfl (fun c47 => ?_) (fun c47 => ?_)
 replace h1 := Qu c47 h1
 refine Q0 <| XR rfl rfl rfl <| XP rfl rfl rfl (Jj (x44 : Dcl) J3 rfl rfl) <| Q9 rfl rfl (W1 rfl) (OpOK.lit1CE (x44 : Dcl) J5 Z8 rfl rfl (W1 rfl) rfl) ?_
 refine QO h1 (fun g48 h1 => ?_)
 refine Q9 rfl rfl (W1 rfl) (QU (α := Dcl) J5 el_48 rfl rfl rfl rfl rfl (.app _ _) g48) <| XS rfl rfl rfl <| Q3 <| Qk <| Q1 <| Q0 <| XP rfl rfl rfl (Q4 rfl rfl rfl) <| XR rfl rfl rfl <| Q3 ?_
 have e := XN h1; subst e
 refine QD ((s1.1 ++ ([x44])), (QW (s1.2 + 1))) (Qh (XK rfl (XK rfl (XK rfl (XK rfl (XK rfl XJ))))) (W8 rfl (W8 rfl (W8 rfl (W8 rfl W7)))) (W4 rfl (W4 rfl W3)) rfl (Nat.zero_le _) rfl rfl rfl (Wp rfl rfl (Wn rfl (Wp rfl rfl (Wo rfl Wm)))) rfl rfl) ho1
 replace h1 := Qv c47 h1
 refine Qj <| Qk <| Q1 <| Q0 <| XP rfl rfl rfl (Q4 rfl rfl rfl) <| XR rfl rfl rfl <| Q3 ?_
 have e := XN h1; subst e
 refine QD (s1.1, (QW (s1.2 + 1))) (Qh (XK rfl (XK rfl (XK rfl (XK rfl (XK rfl XJ))))) (W8 rfl (W8 rfl (W8 rfl (W8 rfl W7)))) (W4 rfl (W4 rfl W3)) rfl (Nat.zero_le _) rfl rfl rfl (Wp rfl rfl (Wn rfl (Wp rfl rfl (Wo rfl Wm)))) rfl rfl) ho1
 replace h1 := Qv c43 h1
 refine QN <| Qf <| Qf ?_
 have e := XN h1; subst e
 have e_ : _ = _ := ho1
 subst e_
 exact QF s1.1 (Qh (XK rfl XJ) (W8 rfl (W8 rfl (W8 rfl (W8 rfl W7)))) (W4 rfl (W4 rfl W3)) rfl (Nat.zero_le _) rfl rfl rfl (Wp rfl rfl (Wn rfl (Wp rfl rfl (Wo rfl Wm)))) rfl rfl) h0
 intro o41 h0
 refine Qx <| Q1 <| Q2 <| Q0 <| XR rfl rfl rfl <| XS rfl rfl rfl <| XS rfl rfl rfl <| Q3 <| Q1 <| Qw ?_
 have e := XN h0; subst e
 exact QX (fun _ _ h => h) rfl (Qp rfl (Qp rfl .nil)) (.cons (.one (.app _ _ _)) (.cons (.one (.d _)) .nil))
 replace hc4 : CallM Try.prog 34 [.one (We a0)] ⟨[], [], 0⟩ (Qr [.agg [Wf, .d (.v (.map none))], .one (Wg 8)]) ⟨[(0, .cells 72 [Wf, .d (.v (.map none))])], [], 4⟩ := hc4
 refine Q9 rfl rfl (W1 rfl) (QP rfl rfl rfl hc4 rfl W7 W3) <| XR rfl rfl rfl <| XP rfl rfl rfl (Qe rfl rfl) <| XP rfl rfl rfl (Qe rfl rfl) <| Q9 rfl rfl (W1 rfl) (Ql YJ rfl) <| QA rfl rfl (Qi J2 rfl rfl rfl rfl (W1 rfl) rfl) <| XS rfl rfl rfl <| Q3 <| Q1 <| Q2 <| Q2 <| Q0 <| XR rfl rfl rfl <| XP rfl rfl rfl (Q4 rfl rfl rfl) ?_
 refine Q3 <| Q1 ?_
 refine Qg rfl (fun _ => ?_) (fun h => nomatch h)
 refine Q2 <| Q0 <| XR rfl rfl rfl <| XS rfl rfl rfl <| XS rfl rfl rfl <| Q3 <| Q1 <| Qw ?_
 have e := XN h0; subst e
 exact QX (fun _ _ h => h) rfl (Qp rfl (Qp rfl .nil)) (.cons (.one (.nil _)) (.cons (.one (.d _)) .nil))
 replace hc4 : CallM Try.prog 34 [.one (We a0)] ⟨[], [], 0⟩ (Qr [.agg [Wf, .d (.v (.map none))], .one (Wg 9)]) ⟨[(0, .cells 72 [Wf, .d (.v (.map none))])], [], 6⟩ := hc4
 refine Q9 rfl rfl (W1 rfl) (QP rfl rfl rfl hc4 rfl W7 W3) <| XR rfl rfl rfl <| XP rfl rfl rfl (Qe rfl rfl) <| XP rfl rfl rfl (Qe rfl rfl) <| Q9 rfl rfl (W1 rfl) (Ql YJ rfl) <| QA rfl rfl (Qi J2 rfl rfl rfl rfl (W1 rfl) rfl) <| XS rfl rfl rfl <| Q3 <| Q1 <| Q2 <| Q2 <| Q0 <| XR rfl rfl rfl <| XP rfl rfl rfl (Q4 rfl rfl rfl) ?_
 refine Q3 <| Q1 ?_
 refine Qg rfl (fun _ => ?_) (fun h => nomatch h)
 refine Q2 <| Q0 <| XR rfl rfl rfl <| XS rfl rfl rfl <| XS rfl rfl rfl <| Q3 <| Q1 <| Qw ?_
 have e := XN h0; subst e
 exact QX (fun _ _ h => h) rfl (Qp rfl (Qp rfl .nil)) (.cons (.one (.nil _)) (.cons (.one (.d _)) .nil))
end Go.Proofs.Ytijcchddnnnmdaa
namespace Go.Proofs.Ytijcchddnnnmdaa
open Go.RowKit Go.Shelf
set_option linter.unusedSimpArgs false
set_option linter.unusedVariables false
def m15o_l0 (x10 : (List Wy)) (s2 : Int × (Qc Wy Int)) (s3 : Int × (Qc Wy Int)) : Option (LO (Int × (Qc Wy Int)) (((Qc Wy Int)) ⊕ (((List (List Int)) × (Qc Wy Int)) ⊕ Unit ⊕ Unit))) :=
 cond (decide (s3.1 < (x10.length : Int)))
   (Option.bind (J1 x10 s3.1) fun (x13 : Wy) =>
 cond (Jr s3.2 x13)
   (some (.done (.inr (.inr (.inl ())))))
   (some (.next ((QW (s3.1 + 1)), (JR s3.2 x13 s2.1)))))
   (some (.done (.inl s3.2)))
def m15o_l1 (nn : Nat) (a0 : List Dcl) (s2 : Int × (Qc Wy Int)) : Option (LO (Int × (Qc Wy Int)) (((Qc Wy Int)) ⊕ (((List (List Int)) × (Qc Wy Int)) ⊕ Unit ⊕ Unit))) :=
 cond (decide (s2.1 < ((nn : Nat) : Int)))
   (Option.bind (J1 a0 s2.1) fun (x8 : Dcl) =>
 Qm (Nat.beq a0.length nn)
 (Option.bind (X8 x8) fun (x10 : (List Wy)) =>
 Option.bind (Qo (m15o_l0 x10 s2) QB (0, s2.2)) (Sum.elim (fun (o11 : (Qc Wy Int)) => some (.next ((QW (s2.1 + 1)), o11))) (fun o => some (.done (.inr o))))))
   (some (.done (.inl s2.2)))
def m15o_l2 (x11 : (List Wy)) (o6 : (Qc Wy Int)) (s3 : (List Int) × Int) : Option (LO ((List Int) × Int) (((List Int)) ⊕ (((List (List Int)) × (Qc Wy Int)) ⊕ Unit ⊕ Unit))) :=
 cond (decide (s3.2 < (x11.length : Int)))
   (Option.bind (J1 x11 s3.2) fun (x14 : Wy) =>
 cond (!(Jr o6 x14))
   (some (.done (.inr (.inr (.inr ())))))
   (Qm (Nat.ble (s3.1.length + ([(J7 o6 x14)]).length) 1000000000)
 (some (.next ((s3.1 ++ ([(J7 o6 x14)])), (QW (s3.2 + 1)))))))
   (some (.done (.inl s3.1)))
def m15o_l3 (nn : Nat) (a0 : List Dcl) (o6 : (Qc Wy Int)) (s2 : Int × (List (List Int))) : Option (LO (Int × (List (List Int))) (((List (List Int))) ⊕ (((List (List Int)) × (Qc Wy Int)) ⊕ Unit ⊕ Unit))) :=
 cond (decide (s2.1 < ((nn : Nat) : Int)))
   (Option.bind (J1 a0 s2.1) fun (x9 : Dcl) =>
 Qm (Nat.beq a0.length nn)
 (Option.bind (Xe x9) fun (x11 : (List Wy)) =>
 Option.bind (Qo (m15o_l2 x11 o6) QB (([] : List Int), 0)) (Sum.elim (fun (o12 : (List Int)) => Option.bind (YZ o12) fun (x13 : List Int) =>
 Option.bind (JM x13 ((Enc.encL o12).length)) fun (x14 : List Int) =>
 Qm (Nat.ble (s2.2.length + ([x14]).length) 1000000000)
 (some (.next ((QW (s2.1 + 1)), (s2.2 ++ ([x14])))))) (fun o => some (.done (.inr o))))))
   (some (.done (.inl s2.2)))
def m15o_l4 (a1 : List Wy) (y1 : (List (List Int)) × (Qc Wy Int)) (s2 : Int × (List Bool)) : Option (LO (Int × (List Bool)) (((List Bool)) ⊕ (Unit ⊕ ((List Bool))))) :=
 cond (decide (s2.1 < (a1.length : Int)))
   (Option.bind (J1 a1 s2.1) fun (x39 : Wy) =>
 cond (!(Jr y1.2 x39))
   (some (.done (.inr (.inl ()))))
   (Option.bind (GD (J7 y1.2 x39) ((y1.1.length : Int).toNat) s2.2 y1.1) fun (x41 : (List Bool)) =>
 some (.next ((QW (s2.1 + 1)), x41))))
   (some (.done (.inl s2.2)))
def m15o_l5 (nn : Nat) (a0 : List Dcl) (y33 : (List Bool)) (y1 : (List (List Int)) × (Qc Wy Int)) (s1 : (List Dcl) × Int) : Option (LO ((List Dcl) × Int) (((List Dcl)))) :=
 cond (decide (s1.2 < ((nn : Nat) : Int)))
   (Option.bind (J1 a0 s1.2) fun (x45 : Dcl) =>
 Qm (Nat.beq a0.length nn)
 (Option.bind (J1 y33 s1.2) fun (x47 : Bool) =>
 Qm (Nat.beq y33.length ((y1.1.length : Int).toNat))
 (cond x47
   (Qm (Nat.ble (s1.1.length + ([x45]).length) 1000000000)
 (some (.next ((s1.1 ++ ([x45])), (QW (s1.2 + 1))))))
   (some (.next (s1.1, (QW (s1.2 + 1))))))))
   (some (.done s1.1))
def m15o (a0 : List Dcl) (a1 : List Wy) (nn : Nat) : Option ((List Dcl) × Int) :=
 Option.bind (Option.bind (Qo (m15o_l1 nn a0) QB (0, gmNil)) (Sum.elim (fun (o6 : (Qc Wy Int)) => Option.bind (Qo (m15o_l3 nn a0 o6) QB (0, ([] : List (List Int)))) (Sum.elim (fun (o7 : (List (List Int))) => some (.inl (o7, o6))) (fun o => some o))) (fun o => some o))) (Sum.elim (fun (y1 : (List (List Int)) × (Qc Wy Int)) => Option.bind (Qm (cond (decide (0 ≤ (y1.1.length : Int))) (Nat.ble (1 * (y1.1.length : Int).toNat) 281474976710656) false)
 (Option.bind (Qo (m15o_l4 a1 y1) QB (0, (List.replicate (y1.1.length : Int).toNat false))) (Sum.elim (fun (o37 : (List Bool)) => some (.inr o37)) (fun o => some o)))) (Sum.elim (fun (y32 : Unit) => some (([] : List Dcl), 9)) (fun (y33 : (List Bool)) => Option.bind (Qo (m15o_l5 nn a0 y33 y1) QB (([] : List Dcl), 0)) (fun (o43 : (List Dcl)) => some (o43, 0))))) (Sum.elim (fun (y2 : Unit) => some (([] : List Dcl), 8)) (fun (y3 : Unit) => some (([] : List Dcl), 9))))
set_option maxRecDepth 100000 in
set_option maxHeartbeats 2000000 in
theorem m15o_ok (a0 : List Dcl) (a1 : List Wy) (nn : Nat) (r : (List Dcl) × Int) (h0 : m15o a0 a1 nn = some r) : CallM Try.prog 15 [.one (.osl 0 0 nn nn), .one (We a1)] ⟨[(0, .cells 48 (Q6 a0))], [], 1⟩ (Qr [.one (We r.1), .one (Wg r.2)]) ⟨[(0, .cells 48 (Q6 a0))], [], 6⟩ := by
 unfold m15o at h0
 refine QM ⟨[(4, .v (.one (We r.1))), (5, .v (.one (Wg r.2)))], [(0, .cells 48 (Q6 a0))], [], 6, 48, []⟩ rfl rfl en_15 (W1 rfl) rfl (Qp rfl (Qp rfl .nil)) (fun w0 M V0 Q hv0 hQ0 => ?_)
 simp only [Jc]
 refine Q2 <| Q0 <| XS rfl rfl rfl <| XS rfl rfl rfl <| Q3 <| Q1 <| Q2 <| Q0 <| XR rfl rfl rfl ?_
 refine Qb h0 (fun y5 h1 h0 => ?_)
 have hc4 : CallM Try.prog 34 [.one (.osl 0 0 nn nn)] ⟨[(0, .cells 48 (Q6 a0))], [], 1⟩ (Qr (((Sum.elim (fun (y1 : (List (List Int)) × (Qc Wy Int)) => ([.agg [Wi 4 y1.1, .mp 2], .one (Wg 0)] : List AV)) (Sum.elim (fun (y2 : Unit) => ([.agg [Wf, .d (.v (.map none))], .one (Wg 8)] : List AV)) (fun (y3 : Unit) => ([.agg [Wf, .d (.v (.map none))], .one (Wg 9)] : List AV))))) y5)) ⟨(((Sum.elim (fun (y1 : (List (List Int)) × (Qc Wy Int)) => (⟨[(2, .v (.one (.ptr 1 0))), (3, .v (.one (Wg 0)))], [(0, .cells 48 (Q6 a0)), (1, .cells 72 [Wi 4 y1.1, .mp 2]), (2, .mp (QJ y1.2.1) y1.2.2)], [(4, some ⟨54, 1, (Enc.encL y1.1).length, []⟩)], 5, 88, []⟩ : St)) (Sum.elim (fun (y2 : Unit) => (⟨[(2, .v (.one (.ptr 1 0))), (3, .v (.one (Wg 8)))], [(0, .cells 48 (Q6 a0)), (1, .cells 72 [Wf, .d (.v (.map none))])], [], 5, 88, []⟩ : St)) (fun (y3 : Unit) => (⟨[(2, .v (.one (.ptr 1 0))), (3, .v (.one (Wg 9)))], [(0, .cells 48 (Q6 a0)), (1, .cells 72 [Wf, .d (.v (.map none))])], [], 7, 88, []⟩ : St))))) y5).hp, (((Sum.elim (fun (y1 : (List (List Int)) × (Qc Wy Int)) => (⟨[(2, .v (.one (.ptr 1 0))), (3, .v (.one (Wg 0)))], [(0, .cells 48 (Q6 a0)), (1, .cells 72 [Wi 4 y1.1, .mp 2]), (2, .mp (QJ y1.2.1) y1.2.2)], [(4, some ⟨54, 1, (Enc.encL y1.1).length, []⟩)], 5, 88, []⟩ : St)) (Sum.elim (fun (y2 : Unit) => (⟨[(2, .v (.one (.ptr 1 0))), (3, .v (.one (Wg 8)))], [(0, .cells 48 (Q6 a0)), (1, .cells 72 [Wf, .d (.v (.map none))])], [], 5, 88, []⟩ : St)) (fun (y3 : Unit) => (⟨[(2, .v (.one (.ptr 1 0))), (3, .v (.one (Wg 9)))], [(0, .cells 48 (Q6 a0)), (1, .cells 72 [Wf, .d (.v (.map none))])], [], 7, 88, []⟩ : St))))) y5).tk, (((Sum.elim (fun (y1 : (List (List Int)) × (Qc Wy Int)) => (⟨[(2, .v (.one (.ptr 1 0))), (3, .v (.one (Wg 0)))], [(0, .cells 48 (Q6 a0)), (1, .cells 72 [Wi 4 y1.1, .mp 2]), (2, .mp (QJ y1.2.1) y1.2.2)], [(4, some ⟨54, 1, (Enc.encL y1.1).length, []⟩)], 5, 88, []⟩ : St)) (Sum.elim (fun (y2 : Unit) => (⟨[(2, .v (.one (.ptr 1 0))), (3, .v (.one (Wg 8)))], [(0, .cells 48 (Q6 a0)), (1, .cells 72 [Wf, .d (.v (.map none))])], [], 5, 88, []⟩ : St)) (fun (y3 : Unit) => (⟨[(2, .v (.one (.ptr 1 0))), (3, .v (.one (Wg 9)))], [(0, .cells 48 (Q6 a0)), (1, .cells 72 [Wf, .d (.v (.map none))])], [], 7, 88, []⟩ : St))))) y5).nx⟩ := by
  refine JC y5 ((Sum.elim (fun (y1 : (List (List Int)) × (Qc Wy Int)) => (⟨[(2, .v (.one (.ptr 1 0))), (3, .v (.one (Wg 0)))], [(0, .cells 48 (Q6 a0)), (1, .cells 72 [Wi 4 y1.1, .mp 2]), (2, .mp (QJ y1.2.1) y1.2.2)], [(4, some ⟨54, 1, (Enc.encL y1.1).length, []⟩)], 5, 88, []⟩ : St)) (Sum.elim (fun (y2 : Unit) => (⟨[(2, .v (.one (.ptr 1 0))), (3, .v (.one (Wg 8)))], [(0, .cells 48 (Q6 a0)), (1, .cells 72 [Wf, .d (.v (.map none))])], [], 5, 88, []⟩ : St)) (fun (y3 : Unit) => (⟨[(2, .v (.one (.ptr 1 0))), (3, .v (.one (Wg 9)))], [(0, .cells 48 (Q6 a0)), (1, .cells 72 [Wf, .d (.v (.map none))])], [], 7, 88, []⟩ : St))))) ((Sum.elim (fun (y1 : (List (List Int)) × (Qc Wy Int)) => ([.agg [Wi 4 y1.1, .mp 2], .one (Wg 0)] : List AV)) (Sum.elim (fun (y2 : Unit) => ([.agg [Wf, .d (.v (.map none))], .one (Wg 8)] : List AV)) (fun (y3 : Unit) => ([.agg [Wf, .d (.v (.map none))], .one (Wg 9)] : List AV))))) rfl rfl GR (W1 rfl) (fun z_ => by cases z_ with
    | inl _ => rfl
    | inr z_ => exact (by cases z_ <;> rfl)) (fun z_ => by cases z_ with
    | inl _ => exact (JU J2 rfl rfl rfl rfl (Qp rfl .nil))
    | inr z_ => exact (by cases z_ with
    | inl _ => exact (JU J2 rfl rfl rfl rfl (Qp rfl .nil))
    | inr _ => exact (JU J2 rfl rfl rfl rfl (Qp rfl .nil)))) (fun w0 M V0 Q hv1 hQ1 => ?_)
  simp only [Jc]
  refine Q2 <| Q0 <| Q9 rfl rfl (W1 rfl) (Ql YJ rfl) <| XS rfl rfl rfl <| Q3 <| Q1 <| Q2 <| Q0 <| Q9 rfl rfl (W1 rfl) (JW Wy Int) <| XP rfl rfl rfl (YX YR rfl rfl rfl) <| Q9 rfl rfl (W1 rfl) (Ql YJ rfl) <| QA rfl rfl (Qi J2 rfl rfl rfl rfl (W1 rfl) rfl) <| Q3 <| Q1 ?_
  refine Q2 <| Q2 <| Q0 <| XR rfl rfl rfl <| XP rfl rfl rfl (Y7 J5 rfl) <| XR rfl rfl rfl <| Q3 <| Q1 <| Qd ?_
  refine QI 0 (fun (o6 : (Qc Wy Int)) => ⟨[(0, .v (.one (.osl 0 0 nn nn))), (2, .v (.one (.ptr 1 0))), (4, .v (.one (.ptr 3 0)))], [(0, .cells 48 (Q6 a0)), (1, .cells 72 [Wf, .d (.v (.map none))]), (2, .mp (QJ o6.1) o6.2), (3, .cells 72 [Wf, .mp 2])], [], 4, 88, []⟩) (fun (o6 : (Qc Wy Int)) => (Option.bind (Qo (m15o_l3 nn a0 o6) QB (0, ([] : List (List Int)))) (Sum.elim (fun (o7 : (List (List Int))) => some (.inl (o7, o6))) (fun o => some o))) = some y5) ?_ ?_
  refine Qb h1 (fun o7 hl2 h1 => ?_)
  refine QH (m15o_l1 nn a0) (fun s2 => ⟨[(0, .v (.one (.osl 0 0 nn nn))), (2, .v (.one (.ptr 1 0))), (4, .v (.one (.ptr 3 0))), (20, .v (.one (.osl 0 0 nn nn))), (21, .v (.one (Wg ((nn : Nat) : Int)))), (22, .v (.one (Wg s2.1)))], [(0, .cells 48 (Q6 a0)), (1, .cells 72 [Wf, .d (.v (.map none))]), (2, .mp (QJ s2.2.1) s2.2.2), (3, .cells 72 [Wf, .mp 2])], [], 4, 88, []⟩) (0, gmNil) o7 (Qh (XK rfl (XK rfl (XK rfl (XK rfl (XK rfl (XK rfl XJ)))))) (W8 rfl (W8 rfl (W8 rfl (W8 rfl W7)))) W3 rfl (Nat.le_trans hv1 (W1 rfl)) rfl rfl rfl (Wo rfl (Wp rfl rfl (Wn rfl (Wp rfl rfl Wm)))) rfl rfl) hl2 (fun s2 n2 oo2 h2 ho2 => ?_)
  unfold m15o_l1 at h2
  refine Q2 <| Q0 <| XP rfl rfl rfl (Q4 rfl rfl rfl) <| Q3 <| Q1 <| Q2 ?_
  refine Qg (b := (decide (s2.1 < ((nn : Nat) : Int)))) rfl (fun c8 => ?_) (fun c8 => ?_)
  replace h2 := Qu c8 h2
  refine Qj <| Q1 <| Q2 <| Qd <| Q2 <| Q0 <| XR rfl rfl rfl ?_
  refine Qb h2 (fun x9 hx9 h2 => ?_)
  refine QO h2 (fun g10 h2 => ?_)
  refine XP rfl rfl rfl (Jk (α := Dcl) J5 rfl rfl hx9 g10) <| XP rfl rfl rfl (Yq (α := Dcl) (ys := [Wg x9.kind, YK x9.name, Wg x9.params, Wg x9.ty.kind, Wg x9.ty.index, YK x9.ty.name, We x9.ty.levels, We x9.ty.kids, Wg x9.value.kind, Wg x9.value.index, YK x9.value.name, We x9.value.levels, We x9.value.kids, Wg x9.fixed, We x9.ctors, Wg x9.rcr.params, Wg x9.rcr.ty.kind, Wg x9.rcr.ty.index, YK x9.rcr.ty.name, We x9.rcr.ty.levels, We x9.rcr.ty.kids, We x9.rcr.rules, We x9.funs]) J3 rfl rfl hx9 rfl) <| Q9 rfl rfl (W1 rfl) (Ql Z8 rfl) <| XS rfl rfl rfl <| QA rfl rfl (Jb (x9 : Dcl) J3 rfl rfl rfl rfl rfl) <| Q3 <| Q1 <| Q2 <| Q0 <| XP rfl rfl rfl (Jj (x9 : Dcl) J3 rfl rfl) ?_
  refine Qb h2 (fun x11 hx11 h2 => ?_)
  refine Q9 rfl rfl (W1 rfl) (Qt (K5 x9 x11 hx11) rfl (.cons (.agg (.cons (.d _) (.cons (.d _) (.cons (.d _) (.cons (.d _) (.cons (.d _) (.cons (.d _) (.cons (.d _) (.cons (.d _) (.cons (.d _) (.cons (.d _) (.cons (.d _) (.cons (.d _) (.cons (.d _) (.cons (.d _) (.cons (.d _) (.cons (.d _) (.cons (.d _) (.cons (.d _) (.cons (.d _) (.cons (.d _) (.cons (.d _) (.cons (.d _) (.cons (.d _) .nil)))))))))))))))))))))))) .nil)) <| XP rfl rfl rfl (Qy (α := Wy) QQ rfl (.d _)) <| XR rfl rfl rfl <| Q3 <| Q1 <| Qd ?_
  refine QI 2 (fun (o12 : (Qc Wy Int)) => ⟨[(0, .v (.one (.osl 0 0 nn nn))), (2, .v (.one (.ptr 1 0))), (4, .v (.one (.ptr 3 0))), (20, .v (.one (.osl 0 0 nn nn))), (21, .v (.one (Wg ((nn : Nat) : Int)))), (22, .v (.one (Wg s2.1)))], [(0, .cells 48 (Q6 a0)), (1, .cells 72 [Wf, .d (.v (.map none))]), (2, .mp (QJ o12.1) o12.2), (3, .cells 72 [Wf, .mp 2]), (4, .cells 48 (Wj x9))], [], 5, 88, []⟩) (fun (o12 : (Qc Wy Int)) => (some (.next ((QW (s2.1 + 1)), o12))) = some oo2) ?_ ?_
  refine Qb h2 (fun o13 hl3 h2 => ?_)
  refine QH (m15o_l0 x11 s2) (fun s3 => ⟨[(0, .v (.one (.osl 0 0 nn nn))), (2, .v (.one (.ptr 1 0))), (4, .v (.one (.ptr 3 0))), (5, .v (.one (Wg s2.1))), (20, .v (.one (.osl 0 0 nn nn))), (21, .v (.one (Wg ((nn : Nat) : Int)))), (22, .v (.one (Wg s2.1))), (28, .v (.one (We x11))), (29, .v (.one (Wg (x11.length : Int)))), (30, .v (.one (Wg s3.1)))], [(0, .cells 48 (Q6 a0)), (1, .cells 72 [Wf, .d (.v (.map none))]), (2, .mp (QJ s3.2.1) s3.2.2), (3, .cells 72 [Wf, .mp 2]), (4, .cells 48 (Wj x9))], [], 5, 88, []⟩) (0, s2.2) o13 (Qh (XK rfl (XK rfl (XK rfl (XK rfl (XK rfl (XK rfl (XK rfl (XK rfl (XK rfl (XK rfl XJ)))))))))) (W8 rfl (W8 rfl (W8 rfl (W8 rfl (W8 rfl W7))))) W3 rfl (Nat.le_trans hv1 (W1 rfl)) rfl rfl rfl (Wo rfl (Wp rfl rfl (Wn rfl (Wp rfl rfl (Wp rfl rfl Wm))))) rfl rfl) hl3 (fun s3 n3 oo3 h3 ho3 => ?_)
  unfold m15o_l0 at h3
  refine Q2 <| Q0 <| XP rfl rfl rfl (Q4 rfl rfl rfl) <| Q3 <| Q1 <| Q2 ?_
  refine Qg (b := (decide (s3.1 < (x11.length : Int)))) rfl (fun c14 => ?_) (fun c14 => ?_)
  replace h3 := Qu c14 h3
  refine Qj <| Q1 <| Q2 <| Qd <| Q2 <| Q0 ?_
  refine Qb h3 (fun x15 hx15 h3 => ?_)
  refine XP rfl rfl rfl (Qq (α := Wy) QQ rfl (.d _) rfl hx15) <| XP rfl rfl rfl (QK Y6 rfl rfl) <| XS rfl rfl rfl <| Q3 <| Q1 <| Q2 <| Q2 <| Q0 <| XP rfl rfl rfl (Q8 JJ rfl) <| XP rfl rfl rfl (Q7 Yw rfl rfl rfl) <| XR rfl rfl rfl <| XP rfl rfl rfl (Jo (M := s3.2) (k := x15) Yv Yb rfl rfl rfl) <| XR rfl rfl rfl <| XP rfl rfl rfl (Qe rfl rfl) ?_
  refine XP rfl rfl rfl (Qe rfl rfl) <| XS rfl rfl rfl <| XS rfl rfl rfl <| Q3 <| Q1 <| Q2 <| Q0 <| XR rfl rfl rfl <| Q3 <| Q1 ?_
  refine Qg (b := (Jr s3.2 x15)) rfl (fun c16 => ?_) (fun c16 => ?_)
  replace h3 := Qu c16 h3
  refine Q2 <| Q0 <| XP rfl rfl rfl (Y1 YR rfl ) <| QA rfl rfl (Qi J2 rfl rfl rfl rfl (W1 rfl) rfl) <| XS rfl rfl rfl <| Q3 <| Q1 <| Qw ?_
  have e := XN h3; subst e
  have e_ : _ = _ := ho3
  subst e_
  try dsimp only [Sum.elim_inl, Sum.elim_inr] at h2
  have e := XN h2; subst e
  have e_ : _ = _ := ho2
  subst e_
  try dsimp only [Sum.elim_inl, Sum.elim_inr] at h1
  have e := XN h1; subst e
  exact hQ1 _ _ _ (.inr rfl) rfl (show StLe _ _ ⟨[(2, .v (.one (.ptr 1 0))), (3, .v (.one (Wg 8)))], [(0, .cells 48 (Q6 a0)), (1, .cells 72 [Wf, .d (.v (.map none))])], [], 5, 88, []⟩ from (Qh (XK rfl (XK rfl XJ)) (W8 rfl (W8 rfl W7)) W3 rfl (Nat.le_trans hv1 (W1 rfl)) rfl rfl rfl (Wo rfl (Wp rfl rfl Wm)) rfl rfl))
  replace h3 := Qv c16 h3
  refine Qj <| Q1 <| Q0 <| XP rfl rfl rfl (Q8 JJ rfl) <| XP rfl rfl rfl (Q7 Yw rfl rfl rfl) <| XR rfl rfl rfl <| XR rfl rfl rfl <| QA rfl rfl (JI (M := s3.2) (k := x15) (v := s2.1) Yv rfl rfl rfl rfl rfl) <| Q3 <| Qk <| Q1 <| Q0 <| XP rfl rfl rfl (Q4 rfl rfl rfl) <| XR rfl rfl rfl ?_
  refine Q3 ?_
  have e := XN h3; subst e
  refine QD ((QW (s3.1 + 1)), (JR s3.2 x15 s2.1)) (Qh (XK rfl (XK rfl (XK rfl (XK rfl (XK rfl (XK rfl (XK rfl (XK rfl (XK rfl (XK rfl XJ)))))))))) (W8 rfl (W8 rfl (W8 rfl (W8 rfl (W8 rfl W7))))) W3 rfl (Nat.le_trans hv1 (W1 rfl)) rfl rfl rfl (Wo rfl (Wp rfl rfl (Wn rfl (Wp rfl rfl (Wp rfl rfl Wm))))) rfl rfl) ho3
  replace h3 := Qv c14 h3
  refine QN <| Qf <| Qf ?_
  have e := XN h3; subst e
  have e_ : _ = _ := ho3
  subst e_
  exact QF s3.2 (Qh (XK rfl (XK rfl (XK rfl (XK rfl (XK rfl (XK rfl XJ)))))) (W8 rfl (W8 rfl (W8 rfl (W8 rfl (W8 rfl W7))))) W3 rfl (Nat.le_trans hv1 (W1 rfl)) rfl rfl rfl (Wo rfl (Wp rfl rfl (Wn rfl (Wp rfl rfl (Wp rfl rfl Wm))))) rfl rfl) h2
  intro o12 h2
  refine Qx <| Qk <| Q1 <| Q0 <| XP rfl rfl rfl (Q4 rfl rfl rfl) <| XR rfl rfl rfl <| Q3 ?_
  have e := XN h2; subst e
  refine QD ((QW (s2.1 + 1)), o12) (Qh (XK rfl (XK rfl (XK rfl (XK rfl (XK rfl (XK rfl XJ)))))) (W8 rfl (W8 rfl (W8 rfl (W8 rfl W7)))) W3 rfl (Nat.le_trans hv1 (W1 rfl)) rfl rfl rfl (Wo rfl (Wp rfl rfl (Wn rfl (Wp rfl rfl Wm)))) rfl rfl) ho2
  replace h2 := Qv c8 h2
  refine QN <| Qf <| Qf ?_
  have e := XN h2; subst e
  have e_ : _ = _ := ho2
  subst e_
  exact QF s2.2 (Qh (XK rfl (XK rfl (XK rfl XJ))) (W8 rfl (W8 rfl (W8 rfl (W8 rfl W7)))) W3 rfl (Nat.le_trans hv1 (W1 rfl)) rfl rfl rfl (Wo rfl (Wp rfl rfl (Wn rfl (Wp rfl rfl Wm)))) rfl rfl) h1
  intro o6 h1
  refine Qx <| Q1 <| Q2 <| Q2 <| Q0 <| XR rfl rfl rfl <| XP rfl rfl rfl (Y7 J5 rfl) <| XR rfl rfl rfl <| Q3 <| Q1 <| Qd ?_
  refine QI 4 (fun (o17 : (List (List Int))) => ⟨[(2, .v (.one (.ptr 1 0))), (4, .v (.one (.ptr 3 0)))], [(0, .cells 48 (Q6 a0)), (1, .cells 72 [Wf, .d (.v (.map none))]), (2, .mp (QJ o6.1) o6.2), (3, .cells 72 [Wi 4 o17, .mp 2])], [(4, some ⟨54, 1, (Enc.encL o17).length, []⟩)], 5, 88, []⟩) (fun (o17 : (List (List Int))) => (some (.inl (o17, o6))) = some y5) ?_ ?_
  refine YH (i := 3) (off := 0) 54 1 rfl rfl ?_
  refine Qb h1 (fun o18 hl2 h1 => ?_)
  refine QH (m15o_l3 nn a0 o6) (fun s2 => ⟨[(2, .v (.one (.ptr 1 0))), (4, .v (.one (.ptr 3 0))), (49, .v (.one (.osl 0 0 nn nn))), (50, .v (.one (Wg ((nn : Nat) : Int)))), (51, .v (.one (Wg s2.1)))], [(0, .cells 48 (Q6 a0)), (1, .cells 72 [Wf, .d (.v (.map none))]), (2, .mp (QJ o6.1) o6.2), (3, .cells 72 [Wi 4 s2.2, .mp 2])], [(4, some ⟨54, 1, (Enc.encL s2.2).length, []⟩)], 5, 88, []⟩) (0, ([] : List (List Int))) o18 (Qh (XK rfl (XK rfl (XK rfl (XK rfl (XK rfl XJ))))) (W8 rfl (W8 rfl (W8 rfl (W8 rfl W7)))) (W4 rfl W3) rfl (Nat.le_trans hv1 (W1 rfl)) rfl rfl rfl (Wo rfl (Wp rfl rfl (Wn rfl (Wp rfl rfl Wm)))) rfl rfl) hl2 (fun s2 n2 oo2 h2 ho2 => ?_)
  unfold m15o_l3 at h2
  refine Q2 <| Q0 <| XP rfl rfl rfl (Q4 rfl rfl rfl) <| Q3 <| Q1 <| Q2 ?_
  refine Qg (b := (decide (s2.1 < ((nn : Nat) : Int)))) rfl (fun c19 => ?_) (fun c19 => ?_)
  replace h2 := Qu c19 h2
  refine Qj <| Q1 <| Q2 <| Qd <| Q2 <| Q0 ?_
  refine Qb h2 (fun x20 hx20 h2 => ?_)
  refine QO h2 (fun g21 h2 => ?_)
  refine XP rfl rfl rfl (Jk (α := Dcl) J5 rfl rfl hx20 g21) <| XP rfl rfl rfl (Yq (α := Dcl) (ys := [Wg x20.kind, YK x20.name, Wg x20.params, Wg x20.ty.kind, Wg x20.ty.index, YK x20.ty.name, We x20.ty.levels, We x20.ty.kids, Wg x20.value.kind, Wg x20.value.index, YK x20.value.name, We x20.value.levels, We x20.value.kids, Wg x20.fixed, We x20.ctors, Wg x20.rcr.params, Wg x20.rcr.ty.kind, Wg x20.rcr.ty.index, YK x20.rcr.ty.name, We x20.rcr.ty.levels, We x20.rcr.ty.kids, We x20.rcr.rules, We x20.funs]) J3 rfl rfl hx20 rfl) <| Q9 rfl rfl (W1 rfl) (Ql Z8 rfl) <| QA rfl rfl (Jb (x20 : Dcl) J3 rfl rfl rfl rfl rfl) <| Q3 <| Q1 <| Q2 <| Q0 <| XS rfl rfl rfl <| Q3 <| Q1 <| Q2 <| Q2 <| Q0 ?_
  refine XP rfl rfl rfl (Jj (x20 : Dcl) J3 rfl rfl) ?_
  refine Qb h2 (fun x22 hx22 h2 => ?_)
  refine Q9 rfl rfl (W1 rfl) (Qt (Gh x20 x22 hx22) rfl (.cons (.agg (.cons (.d _) (.cons (.d _) (.cons (.d _) (.cons (.d _) (.cons (.d _) (.cons (.d _) (.cons (.d _) (.cons (.d _) (.cons (.d _) (.cons (.d _) (.cons (.d _) (.cons (.d _) (.cons (.d _) (.cons (.d _) (.cons (.d _) (.cons (.d _) (.cons (.d _) (.cons (.d _) (.cons (.d _) (.cons (.d _) (.cons (.d _) (.cons (.d _) (.cons (.d _) .nil)))))))))))))))))))))))) .nil)) <| XP rfl rfl rfl (Qy (α := Wy) QQ rfl (.d _)) <| XR rfl rfl rfl <| Q3 <| Q1 <| Qd ?_
  refine QI 6 (fun (o23 : (List Int)) => ⟨[(2, .v (.one (.ptr 1 0))), (4, .v (.one (.ptr 3 0))), (13, .v (.one (.apv 6 1 ((Enc.encL o23).length) []))), (49, .v (.one (.osl 0 0 nn nn))), (50, .v (.one (Wg ((nn : Nat) : Int)))), (51, .v (.one (Wg s2.1)))], [(0, .cells 48 (Q6 a0)), (1, .cells 72 [Wf, .d (.v (.map none))]), (2, .mp (QJ o6.1) o6.2), (3, .cells 72 [Wi 4 s2.2, .mp 2]), (5, .cells 48 (Wj x20))], [(4, some ⟨54, 1, (Enc.encL s2.2).length, []⟩), (6, some ⟨3, 1, (Enc.encL o23).length, (Enc.encL o23).flatten⟩)], 7, 88, []⟩) (fun (o23 : (List Int)) => (Option.bind (YZ o23) fun (x24 : List Int) =>
    Option.bind (JM x24 ((Enc.encL o23).length)) fun (x25 : List Int) =>
    Qm (Nat.ble (s2.2.length + ([x25]).length) 1000000000)
    (some (.next ((QW (s2.1 + 1)), (s2.2 ++ ([x25])))))) = some oo2) ?_ ?_
  refine Y0 (t := 13) 3 1 rfl <| ZY (α := Int) (t := 13) rfl rfl ?_
  refine Qb h2 (fun o24 hl3 h2 => ?_)
  refine QH (m15o_l2 x22 o6) (fun s3 => ⟨[(2, .v (.one (.ptr 1 0))), (4, .v (.one (.ptr 3 0))), (13, .v (.one (.apv 6 1 ((Enc.encL s3.1).length) []))), (49, .v (.one (.osl 0 0 nn nn))), (50, .v (.one (Wg ((nn : Nat) : Int)))), (51, .v (.one (Wg s2.1))), (56, .v (.one (We x22))), (57, .v (.one (Wg (x22.length : Int)))), (58, .v (.one (Wg s3.2)))], [(0, .cells 48 (Q6 a0)), (1, .cells 72 [Wf, .d (.v (.map none))]), (2, .mp (QJ o6.1) o6.2), (3, .cells 72 [Wi 4 s2.2, .mp 2]), (5, .cells 48 (Wj x20))], [(4, some ⟨54, 1, (Enc.encL s2.2).length, []⟩), (6, some ⟨3, 1, (Enc.encL s3.1).length, (Enc.encL s3.1).flatten⟩)], 7, 88, []⟩) (([] : List Int), 0) o24 (Qh (XK rfl (XK rfl (XK rfl (XK rfl (XK rfl (XK rfl (XK rfl (XK rfl (XK rfl XJ))))))))) (W8 rfl (W8 rfl (W8 rfl (W8 rfl (W8 rfl W7))))) (W4 rfl (W4 rfl W3)) rfl (Nat.le_trans hv1 (W1 rfl)) rfl rfl rfl (Wo rfl (Wp rfl rfl (Wn rfl (Wp rfl rfl (Wp rfl rfl Wm))))) rfl rfl) hl3 (fun s3 n3 oo3 h3 ho3 => ?_)
  unfold m15o_l2 at h3
  refine Q2 <| Q0 <| XP rfl rfl rfl (Q4 rfl rfl rfl) <| Q3 <| Q1 <| Q2 ?_
  refine Qg (b := (decide (s3.2 < (x22.length : Int)))) rfl (fun c25 => ?_) (fun c25 => ?_)
  replace h3 := Qu c25 h3
  refine Qj <| Q1 <| Q2 <| Qd <| Q2 <| Q0 ?_
  refine Qb h3 (fun x26 hx26 h3 => ?_)
  refine XP rfl rfl rfl (Qq (α := Wy) QQ rfl (.d _) rfl hx26) <| XP rfl rfl rfl (QK Y6 rfl rfl) <| XS rfl rfl rfl <| Q3 <| Q1 <| Q2 <| Q0 <| XP rfl rfl rfl (Q8 JJ rfl) <| XP rfl rfl rfl (Q7 Yw rfl rfl rfl) <| XR rfl rfl rfl <| XP rfl rfl rfl (Jo (M := o6) (k := x26) Yv Yb rfl rfl rfl) <| XR rfl rfl rfl <| XP rfl rfl rfl (Qe rfl rfl) <| XP rfl rfl rfl (Qe rfl rfl) ?_
  refine XS rfl rfl rfl <| XS rfl rfl rfl <| Q3 <| Q1 <| Q2 <| Q2 <| Q0 <| XR rfl rfl rfl <| XP rfl rfl rfl (Jp rfl) <| Q3 <| Q1 ?_
  refine Qg (b := (!(Jr o6 x26))) rfl (fun c27 => ?_) (fun c27 => ?_)
  replace h3 := Qu c27 h3
  refine Q2 <| Q0 <| XP rfl rfl rfl (Y1 YR rfl ) <| QA rfl rfl (Qi J2 rfl rfl rfl rfl (W1 rfl) rfl) <| XS rfl rfl rfl <| Q3 <| Q1 <| Qw ?_
  have e := XN h3; subst e
  have e_ : _ = _ := ho3
  subst e_
  try dsimp only [Sum.elim_inl, Sum.elim_inr] at h2
  have e := XN h2; subst e
  have e_ : _ = _ := ho2
  subst e_
  try dsimp only [Sum.elim_inl, Sum.elim_inr] at h1
  have e := XN h1; subst e
  exact hQ1 _ _ _ (.inr rfl) rfl (show StLe _ _ ⟨[(2, .v (.one (.ptr 1 0))), (3, .v (.one (Wg 9)))], [(0, .cells 48 (Q6 a0)), (1, .cells 72 [Wf, .d (.v (.map none))])], [], 7, 88, []⟩ from (Qh (XK rfl (XK rfl XJ)) (W8 rfl (W8 rfl W7)) W3 rfl (Nat.le_trans hv1 (W1 rfl)) rfl rfl rfl (Wo rfl (Wp rfl rfl Wm)) rfl rfl))
  replace h3 := Qv c27 h3
  refine Qj <| Q1 <| Q0 <| XR rfl rfl rfl <| XR rfl rfl rfl <| Q9 rfl rfl (W1 rfl) (QY (α := Int) ((J7 o6 x26)) JP Xh rfl rfl (W1 rfl) (W1 rfl) rfl rfl (.cons (.d _) .nil) rfl) ?_
  refine QO h3 (fun g28 h3 => ?_)
  refine Q9 rfl rfl (W1 rfl) (Yr (α := Int) (l := s3.1) (l2 := ([(J7 o6 x26)] : List Int)) JP X2 rfl rfl rfl rfl (.app _ _) rfl g28) <| XS rfl rfl rfl <| Q3 <| Qk <| Q1 <| Q0 <| XP rfl rfl rfl (Q4 rfl rfl rfl) <| XR rfl rfl rfl <| Q3 ?_
  have e := XN h3; subst e
  refine QD ((s3.1 ++ ([(J7 o6 x26)])), (QW (s3.2 + 1))) (Qh (XK rfl (XK rfl (XK rfl (XK rfl (XK rfl (XK rfl (XK rfl (XK rfl (XK rfl XJ))))))))) (W8 rfl (W8 rfl (W8 rfl (W8 rfl (W8 rfl W7))))) (W4 rfl (W4 rfl W3)) rfl (Nat.le_trans hv1 (W1 rfl)) rfl rfl rfl (Wo rfl (Wp rfl rfl (Wn rfl (Wp rfl rfl (Wp rfl rfl Wm))))) rfl rfl) ho3
  replace h3 := Qv c25 h3
  refine QN <| Qf <| Qf ?_
  have e := XN h3; subst e
  have e_ : _ = _ := ho3
  subst e_
  exact QF s3.1 (Qh (XK rfl (XK rfl (XK rfl (XK rfl (XK rfl (XK rfl XJ)))))) (W8 rfl (W8 rfl (W8 rfl (W8 rfl (W8 rfl W7))))) (W4 rfl (W4 rfl W3)) rfl (Nat.le_trans hv1 (W1 rfl)) rfl rfl rfl (Wo rfl (Wp rfl rfl (Wn rfl (Wp rfl rfl (Wp rfl rfl Wm))))) rfl rfl) h2
  intro o23 h2
  refine Qx <| Q1 <| Q2 <| Q0 <| XR rfl rfl rfl ?_
  refine Qb h2 (fun x29 hx29 h2 => ?_)
  refine Q9 rfl rfl (W1 rfl) (QS (hp1' := []) (tk1' := [(6, some ⟨3, 1, (Enc.encL o23).length, (Enc.encL x29).flatten⟩)]) (hpF := [(0, .cells 48 (Q6 a0)), (1, .cells 72 [Wf, .d (.v (.map none))]), (2, .mp (QJ o6.1) o6.2), (3, .cells 72 [Wi 4 s2.2, .mp 2]), (5, .cells 48 (Wj x20))]) (tkF := [(4, some ⟨54, 1, (Enc.encL s2.2).length, []⟩)]) (res2 := Qr []) (nx2 := 7) [6] rfl rfl (ZJ o23 x29 hx29) rfl rfl XT rfl rfl Wa (W6 rfl W5) (W8 rfl (W8 rfl (W8 rfl (W8 rfl (W8 rfl W7))))) (W4 rfl W3) rfl rfl rfl rfl rfl Wm rfl rfl rfl rfl) <| Q3 <| Q1 ?_
  refine JZ [3, 5, 7] [(0, 1), (1, 1)] mixed (by kernel_rfl) (by kernel_rfl) (by kernel_rfl) ?_
  refine RunA.rd rfl rfl rfl (Q5 (Q8 JA rfl)) rfl <| RunA.rd rfl rfl rfl (Q5 (Q7 JV rfl rfl rfl)) rfl <| RunA.rd rfl rfl rfl (Q5 (QV rfl)) rfl ?_
  refine Qb h2 (fun x30 hx30 h2 => ?_)
  refine RunA.eff rfl rfl rfl (QS (hp1' := []) (tk1' := [(7, some ⟨3, 1, (Enc.encL x30).length, []⟩)]) (hpF := [(0, .cells 48 (Q6 a0)), (1, .cells 72 [Wf, .d (.v (.map none))]), (2, .mp (QJ o6.1) o6.2), (3, .cells 72 [Wi 4 s2.2, .mp 2]), (5, .cells 48 (Wj x20))]) (tkF := [(4, some ⟨54, 1, (Enc.encL s2.2).length, []⟩)]) (res2 := Qr [.one (Wi 7 x30)]) (nx2 := 8) [6] rfl rfl (YE x29 ((Enc.encL o23).length) x30 hx30) rfl rfl XT rfl rfl Wa (W6 rfl W5) (W8 rfl (W8 rfl (W8 rfl (W8 rfl (W8 rfl W7))))) (W4 rfl W3) rfl rfl rfl rfl rfl Wm rfl rfl rfl rfl) rfl <| RunA.rd rfl rfl rfl (JX (α := List Int) (x30) Y3 X6 rfl rfl (W1 rfl) rfl rfl (.cons (.app _ _ _) .nil) rfl) rfl ?_
  refine QO h2 (fun g31 h2 => ?_)
  refine RunA.eff rfl rfl rfl (QU (α := List Int) Y3 GL rfl rfl rfl rfl rfl (.d _) g31) rfl <| RunA.rd rfl rfl rfl (Q5 (Q8 JA rfl)) rfl <| RunA.eff rfl rfl rfl (Qi JV rfl rfl rfl rfl (W1 rfl) rfl) rfl ?_
  refine RunA.nil ⟨?ex, _, _, rfl, ?_⟩
  case ex => exact ⟨⟨_, rfl, _, _, rfl, rfl, rfl, .inl ⟨rfl, _, Q5 (Q8 JA rfl), rfl⟩⟩, ⟨_, rfl, _, _, rfl, rfl, rfl, .inl ⟨rfl, _, Q5 (Q7 JV rfl rfl rfl), rfl⟩⟩, trivial⟩
  refine JT (st' := ⟨[(2, .v (.one (.ptr 1 0))), (4, .v (.one (.ptr 3 0))), (49, .v (.one (.osl 0 0 nn nn))), (50, .v (.one (Wg ((nn : Nat) : Int)))), (51, .v (.one (Wg s2.1)))], [(0, .cells 48 (Q6 a0)), (1, .cells 72 [Wf, .d (.v (.map none))]), (2, .mp (QJ o6.1) o6.2), (3, .cells 72 [Wi 4 ((s2.2 ++ ([x30])) : List (List Int)), .mp 2]), (5, .cells 48 (Wj x20))], [(4, some ⟨54, 1, (Enc.encL ((s2.2 ++ ([x30])) : List (List Int))).length, []⟩), (7, some ⟨3, 1, (Enc.encL x30).length, []⟩)], 8, 88, []⟩) (Qh (XK rfl (XK rfl (XK rfl (XK rfl (XK rfl XJ))))) (W8 rfl (W8 rfl (W8 rfl (W8 rfl (W8 rfl W7))))) (W4 rfl (W4 rfl W3)) rfl (Nat.le_trans hv1 (W1 rfl)) rfl rfl rfl (Wo rfl (Wp rfl rfl (Wn rfl (Wp rfl rfl (Wp rfl rfl Wm))))) rfl rfl) <| Qk <| Q1 <| Q0 <| XP rfl rfl rfl (Q4 rfl rfl rfl) <| XR rfl rfl rfl <| Q3 ?_
  have e := XN h2; subst e
  refine QD ((QW (s2.1 + 1)), (s2.2 ++ ([x30]))) (Qh (XK rfl (XK rfl (XK rfl (XK rfl (XK rfl XJ))))) (W8 rfl (W8 rfl (W8 rfl (W8 rfl W7)))) (W4 rfl W3) rfl (Nat.le_trans hv1 (W1 rfl)) rfl rfl rfl (Wo rfl (Wp rfl rfl (Wn rfl (Wp rfl rfl Wm)))) rfl rfl) ho2
  replace h2 := Qv c19 h2
  refine QN <| Qf <| Qf ?_
  have e := XN h2; subst e
  have e_ : _ = _ := ho2
  subst e_
  exact QF s2.2 (Qh (XK rfl (XK rfl XJ)) (W8 rfl (W8 rfl (W8 rfl (W8 rfl W7)))) (W4 rfl W3) rfl (Nat.le_trans hv1 (W1 rfl)) rfl rfl rfl (Wo rfl (Wp rfl rfl (Wn rfl (Wp rfl rfl Wm)))) rfl rfl) h1
  intro o17 h1
  refine Qx <| Q1 <| Q2 <| Q0 <| XP rfl rfl rfl (Qz J2 rfl rfl rfl rfl) <| QA rfl rfl (Qi J2 rfl rfl rfl rfl (W1 rfl) rfl) <| XS rfl rfl rfl <| Q3 <| Q1 <| Qw ?_
  have e := XN h1; subst e
  exact hQ1 _ _ _ (.inr rfl) rfl (show StLe _ _ ⟨[(2, .v (.one (.ptr 1 0))), (3, .v (.one (Wg 0)))], [(0, .cells 48 (Q6 a0)), (1, .cells 72 [Wi 4 o17, .mp 2]), (2, .mp (QJ o6.1) o6.2)], [(4, some ⟨54, 1, (Enc.encL o17).length, []⟩)], 5, 88, []⟩ from (Qh (XK rfl (XK rfl XJ)) (W8 rfl (W8 rfl (W8 rfl W7))) (W4 rfl W3) rfl (Nat.le_trans hv1 (W1 rfl)) rfl rfl rfl (Wo rfl (Wp rfl rfl (Wn rfl Wm))) rfl rfl))
 refine KA (C := fun q_ => CallM Try.prog 34 [.one (.osl 0 0 nn nn)] ⟨[(0, .cells 48 (Q6 a0))], [], 1⟩ (Qr (((Sum.elim (fun (y1 : (List (List Int)) × (Qc Wy Int)) => ([.agg [Wi 4 y1.1, .mp 2], .one (Wg 0)] : List AV)) (Sum.elim (fun (y2 : Unit) => ([.agg [Wf, .d (.v (.map none))], .one (Wg 8)] : List AV)) (fun (y3 : Unit) => ([.agg [Wf, .d (.v (.map none))], .one (Wg 9)] : List AV))))) q_)) ⟨(((Sum.elim (fun (y1 : (List (List Int)) × (Qc Wy Int)) => (⟨[(2, .v (.one (.ptr 1 0))), (3, .v (.one (Wg 0)))], [(0, .cells 48 (Q6 a0)), (1, .cells 72 [Wi 4 y1.1, .mp 2]), (2, .mp (QJ y1.2.1) y1.2.2)], [(4, some ⟨54, 1, (Enc.encL y1.1).length, []⟩)], 5, 88, []⟩ : St)) (Sum.elim (fun (y2 : Unit) => (⟨[(2, .v (.one (.ptr 1 0))), (3, .v (.one (Wg 8)))], [(0, .cells 48 (Q6 a0)), (1, .cells 72 [Wf, .d (.v (.map none))])], [], 5, 88, []⟩ : St)) (fun (y3 : Unit) => (⟨[(2, .v (.one (.ptr 1 0))), (3, .v (.one (Wg 9)))], [(0, .cells 48 (Q6 a0)), (1, .cells 72 [Wf, .d (.v (.map none))])], [], 7, 88, []⟩ : St))))) q_).hp, (((Sum.elim (fun (y1 : (List (List Int)) × (Qc Wy Int)) => (⟨[(2, .v (.one (.ptr 1 0))), (3, .v (.one (Wg 0)))], [(0, .cells 48 (Q6 a0)), (1, .cells 72 [Wi 4 y1.1, .mp 2]), (2, .mp (QJ y1.2.1) y1.2.2)], [(4, some ⟨54, 1, (Enc.encL y1.1).length, []⟩)], 5, 88, []⟩ : St)) (Sum.elim (fun (y2 : Unit) => (⟨[(2, .v (.one (.ptr 1 0))), (3, .v (.one (Wg 8)))], [(0, .cells 48 (Q6 a0)), (1, .cells 72 [Wf, .d (.v (.map none))])], [], 5, 88, []⟩ : St)) (fun (y3 : Unit) => (⟨[(2, .v (.one (.ptr 1 0))), (3, .v (.one (Wg 9)))], [(0, .cells 48 (Q6 a0)), (1, .cells 72 [Wf, .d (.v (.map none))])], [], 7, 88, []⟩ : St))))) q_).tk, (((Sum.elim (fun (y1 : (List (List Int)) × (Qc Wy Int)) => (⟨[(2, .v (.one (.ptr 1 0))), (3, .v (.one (Wg 0)))], [(0, .cells 48 (Q6 a0)), (1, .cells 72 [Wi 4 y1.1, .mp 2]), (2, .mp (QJ y1.2.1) y1.2.2)], [(4, some ⟨54, 1, (Enc.encL y1.1).length, []⟩)], 5, 88, []⟩ : St)) (Sum.elim (fun (y2 : Unit) => (⟨[(2, .v (.one (.ptr 1 0))), (3, .v (.one (Wg 8)))], [(0, .cells 48 (Q6 a0)), (1, .cells 72 [Wf, .d (.v (.map none))])], [], 5, 88, []⟩ : St)) (fun (y3 : Unit) => (⟨[(2, .v (.one (.ptr 1 0))), (3, .v (.one (Wg 9)))], [(0, .cells 48 (Q6 a0)), (1, .cells 72 [Wf, .d (.v (.map none))])], [], 7, 88, []⟩ : St))))) q_).nx⟩) hc4 h0 (fun y1 hc4 h0 => ?_) (fun z_ hc4 h0 => KA (C := fun q_ => CallM Try.prog 34 [.one (.osl 0 0 nn nn)] ⟨[(0, .cells 48 (Q6 a0))], [], 1⟩ (Qr (((Sum.elim (fun (y1 : (List (List Int)) × (Qc Wy Int)) => ([.agg [Wi 4 y1.1, .mp 2], .one (Wg 0)] : List AV)) (Sum.elim (fun (y2 : Unit) => ([.agg [Wf, .d (.v (.map none))], .one (Wg 8)] : List AV)) (fun (y3 : Unit) => ([.agg [Wf, .d (.v (.map none))], .one (Wg 9)] : List AV))))) (.inr q_))) ⟨(((Sum.elim (fun (y1 : (List (List Int)) × (Qc Wy Int)) => (⟨[(2, .v (.one (.ptr 1 0))), (3, .v (.one (Wg 0)))], [(0, .cells 48 (Q6 a0)), (1, .cells 72 [Wi 4 y1.1, .mp 2]), (2, .mp (QJ y1.2.1) y1.2.2)], [(4, some ⟨54, 1, (Enc.encL y1.1).length, []⟩)], 5, 88, []⟩ : St)) (Sum.elim (fun (y2 : Unit) => (⟨[(2, .v (.one (.ptr 1 0))), (3, .v (.one (Wg 8)))], [(0, .cells 48 (Q6 a0)), (1, .cells 72 [Wf, .d (.v (.map none))])], [], 5, 88, []⟩ : St)) (fun (y3 : Unit) => (⟨[(2, .v (.one (.ptr 1 0))), (3, .v (.one (Wg 9)))], [(0, .cells 48 (Q6 a0)), (1, .cells 72 [Wf, .d (.v (.map none))])], [], 7, 88, []⟩ : St))))) (.inr q_)).hp, (((Sum.elim (fun (y1 : (List (List Int)) × (Qc Wy Int)) => (⟨[(2, .v (.one (.ptr 1 0))), (3, .v (.one (Wg 0)))], [(0, .cells 48 (Q6 a0)), (1, .cells 72 [Wi 4 y1.1, .mp 2]), (2, .mp (QJ y1.2.1) y1.2.2)], [(4, some ⟨54, 1, (Enc.encL y1.1).length, []⟩)], 5, 88, []⟩ : St)) (Sum.elim (fun (y2 : Unit) => (⟨[(2, .v (.one (.ptr 1 0))), (3, .v (.one (Wg 8)))], [(0, .cells 48 (Q6 a0)), (1, .cells 72 [Wf, .d (.v (.map none))])], [], 5, 88, []⟩ : St)) (fun (y3 : Unit) => (⟨[(2, .v (.one (.ptr 1 0))), (3, .v (.one (Wg 9)))], [(0, .cells 48 (Q6 a0)), (1, .cells 72 [Wf, .d (.v (.map none))])], [], 7, 88, []⟩ : St))))) (.inr q_)).tk, (((Sum.elim (fun (y1 : (List (List Int)) × (Qc Wy Int)) => (⟨[(2, .v (.one (.ptr 1 0))), (3, .v (.one (Wg 0)))], [(0, .cells 48 (Q6 a0)), (1, .cells 72 [Wi 4 y1.1, .mp 2]), (2, .mp (QJ y1.2.1) y1.2.2)], [(4, some ⟨54, 1, (Enc.encL y1.1).length, []⟩)], 5, 88, []⟩ : St)) (Sum.elim (fun (y2 : Unit) => (⟨[(2, .v (.one (.ptr 1 0))), (3, .v (.one (Wg 8)))], [(0, .cells 48 (Q6 a0)), (1, .cells 72 [Wf, .d (.v (.map none))])], [], 5, 88, []⟩ : St)) (fun (y3 : Unit) => (⟨[(2, .v (.one (.ptr 1 0))), (3, .v (.one (Wg 9)))], [(0, .cells 48 (Q6 a0)), (1, .cells 72 [Wf, .d (.v (.map none))])], [], 7, 88, []⟩ : St))))) (.inr q_)).nx⟩) hc4 h0 (fun y2 hc4 h0 => ?_) (fun y3 hc4 h0 => ?_))
 replace hc4 : CallM Try.prog 34 [.one (.osl 0 0 nn nn)] ⟨[(0, .cells 48 (Q6 a0))], [], 1⟩ (Qr [.agg [Wi 4 y1.1, .mp 2], .one (Wg 0)]) ⟨[(0, .cells 48 (Q6 a0)), (1, .cells 72 [Wi 4 y1.1, .mp 2]), (2, .mp (QJ y1.2.1) y1.2.2)], [(4, some ⟨54, 1, (Enc.encL y1.1).length, []⟩)], 5⟩ := hc4
 refine Q9 rfl rfl (W1 rfl) (QP rfl rfl rfl hc4 rfl (W8 rfl W7) W3) <| XR rfl rfl rfl <| XP rfl rfl rfl (Qe rfl rfl) <| XP rfl rfl rfl (Qe rfl rfl) <| Q9 rfl rfl (W1 rfl) (Ql YJ rfl) <| QA rfl rfl (Qi J2 rfl rfl rfl rfl (W1 rfl) rfl) <| XS rfl rfl rfl <| Q3 <| Q1 <| Q2 <| Q2 <| Q0 <| XR rfl rfl rfl <| XP rfl rfl rfl (Q4 rfl rfl rfl) ?_
 refine Q3 <| Q1 ?_
 refine Qg rfl (fun h => nomatch h) (fun _ => ?_)
 refine Qj <| Q1 <| Q2 <| Q0 <| XP rfl rfl rfl (Qz J2 rfl rfl rfl rfl) <| XP rfl rfl rfl (Q8 JA rfl) <| XP rfl rfl rfl (Q7 JV rfl rfl rfl) <| XR rfl rfl rfl ?_
 refine Qb h0 (fun y35 h1 h0 => ?_)
 have hc34 : CallM Try.prog 35 [.agg [Wi 4 y1.1, .mp 2], .one (Wi 4 y1.1), .one (We a1)] ⟨[(0, .cells 48 (Q6 a0)), (1, .cells 72 [Wi 4 y1.1, .mp 2]), (2, .mp (QJ y1.2.1) y1.2.2), (5, .cells 72 [Wi 4 y1.1, .mp 2])], [(4, some ⟨54, 1, (Enc.encL y1.1).length, []⟩)], 6⟩ (Qr (((Sum.elim (fun (y32 : Unit) => ([.one (Wf), .one (Wg 9)] : List AV)) (fun (y33 : (List Bool)) => ([.one (.osl 8 0 ((y1.1.length : Int).toNat) ((y1.1.length : Int).toNat)), .one (Wg 0)] : List AV)))) y35)) ⟨(((Sum.elim (fun (y32 : Unit) => (⟨[(6, .v (.one (Wf))), (7, .v (.one (Wg 9)))], [(0, .cells 48 (Q6 a0)), (1, .cells 72 [Wi 4 y1.1, .mp 2]), (2, .mp (QJ y1.2.1) y1.2.2), (5, .cells 72 [Wi 4 y1.1, .mp 2])], [(4, some ⟨54, 1, (Enc.encL y1.1).length, []⟩)], 11, 38, []⟩ : St)) (fun (y33 : (List Bool)) => (⟨[(6, .v (.one (.osl 8 0 ((y1.1.length : Int).toNat) ((y1.1.length : Int).toNat)))), (7, .v (.one (Wg 0)))], [(0, .cells 48 (Q6 a0)), (1, .cells 72 [Wi 4 y1.1, .mp 2]), (2, .mp (QJ y1.2.1) y1.2.2), (5, .cells 72 [Wi 4 y1.1, .mp 2]), (8, .cells 4 (Q6 y33))], [(4, some ⟨54, 1, (Enc.encL y1.1).length, []⟩)], 11, 38, []⟩ : St)))) y35).hp, (((Sum.elim (fun (y32 : Unit) => (⟨[(6, .v (.one (Wf))), (7, .v (.one (Wg 9)))], [(0, .cells 48 (Q6 a0)), (1, .cells 72 [Wi 4 y1.1, .mp 2]), (2, .mp (QJ y1.2.1) y1.2.2), (5, .cells 72 [Wi 4 y1.1, .mp 2])], [(4, some ⟨54, 1, (Enc.encL y1.1).length, []⟩)], 11, 38, []⟩ : St)) (fun (y33 : (List Bool)) => (⟨[(6, .v (.one (.osl 8 0 ((y1.1.length : Int).toNat) ((y1.1.length : Int).toNat)))), (7, .v (.one (Wg 0)))], [(0, .cells 48 (Q6 a0)), (1, .cells 72 [Wi 4 y1.1, .mp 2]), (2, .mp (QJ y1.2.1) y1.2.2), (5, .cells 72 [Wi 4 y1.1, .mp 2]), (8, .cells 4 (Q6 y33))], [(4, some ⟨54, 1, (Enc.encL y1.1).length, []⟩)], 11, 38, []⟩ : St)))) y35).tk, (((Sum.elim (fun (y32 : Unit) => (⟨[(6, .v (.one (Wf))), (7, .v (.one (Wg 9)))], [(0, .cells 48 (Q6 a0)), (1, .cells 72 [Wi 4 y1.1, .mp 2]), (2, .mp (QJ y1.2.1) y1.2.2), (5, .cells 72 [Wi 4 y1.1, .mp 2])], [(4, some ⟨54, 1, (Enc.encL y1.1).length, []⟩)], 11, 38, []⟩ : St)) (fun (y33 : (List Bool)) => (⟨[(6, .v (.one (.osl 8 0 ((y1.1.length : Int).toNat) ((y1.1.length : Int).toNat)))), (7, .v (.one (Wg 0)))], [(0, .cells 48 (Q6 a0)), (1, .cells 72 [Wi 4 y1.1, .mp 2]), (2, .mp (QJ y1.2.1) y1.2.2), (5, .cells 72 [Wi 4 y1.1, .mp 2]), (8, .cells 4 (Q6 y33))], [(4, some ⟨54, 1, (Enc.encL y1.1).length, []⟩)], 11, 38, []⟩ : St)))) y35).nx⟩ := by
  refine JC y35 ((Sum.elim (fun (y32 : Unit) => (⟨[(6, .v (.one (Wf))), (7, .v (.one (Wg 9)))], [(0, .cells 48 (Q6 a0)), (1, .cells 72 [Wi 4 y1.1, .mp 2]), (2, .mp (QJ y1.2.1) y1.2.2), (5, .cells 72 [Wi 4 y1.1, .mp 2])], [(4, some ⟨54, 1, (Enc.encL y1.1).length, []⟩)], 11, 38, []⟩ : St)) (fun (y33 : (List Bool)) => (⟨[(6, .v (.one (.osl 8 0 ((y1.1.length : Int).toNat) ((y1.1.length : Int).toNat)))), (7, .v (.one (Wg 0)))], [(0, .cells 48 (Q6 a0)), (1, .cells 72 [Wi 4 y1.1, .mp 2]), (2, .mp (QJ y1.2.1) y1.2.2), (5, .cells 72 [Wi 4 y1.1, .mp 2]), (8, .cells 4 (Q6 y33))], [(4, some ⟨54, 1, (Enc.encL y1.1).length, []⟩)], 11, 38, []⟩ : St)))) ((Sum.elim (fun (y32 : Unit) => ([.one (Wf), .one (Wg 9)] : List AV)) (fun (y33 : (List Bool)) => ([.one (.osl 8 0 ((y1.1.length : Int).toNat) ((y1.1.length : Int).toNat)), .one (Wg 0)] : List AV)))) rfl rfl en_35 (W1 rfl) (fun z_ => by cases z_ <;> rfl) (fun z_ => by cases z_ with
    | inl _ => exact (Qp rfl (Qp rfl .nil))
    | inr _ => exact (Qp rfl (Qp rfl .nil))) (fun w0 M V0 Q hv1 hQ1 => ?_)
  simp only [Jc]
  refine Q2 <| Q0 <| Q9 rfl rfl (W1 rfl) (Js rfl) <| Q9 rfl rfl (W1 rfl) (Js rfl) <| XS rfl rfl rfl <| XS rfl rfl rfl <| Q3 <| Q1 <| Q2 <| Q0 <| XP rfl rfl rfl (Q7 JV rfl rfl rfl) <| XP rfl rfl rfl (Qy (α := List Int) Y3 rfl (.app _ _)) ?_
  refine QO h1 (fun g36 h1 => ?_)
  refine Q9 rfl rfl (W1 rfl) (Zx (α := Bool) (z := false) Z6 XH rfl rfl Xs rfl rfl g36 rfl (by repeat (first | exact CLs.nil | refine CLs.cons (by first | exact .refl _ | exact .sub (.app _ _ _) | exact .sub (.nil _)) ?_))) ?_
  refine Q9 rfl rfl (W1 rfl) (Ql Xg rfl) <| QA rfl rfl (Qi Z7 rfl rfl rfl rfl (W1 rfl) rfl) <| Q3 <| Q1 <| Q2 <| Q0 <| Q9 rfl rfl (W1 rfl) (Ql z_106 rfl) <| Q3 <| Q1 <| Q2 <| Q0 <| XP rfl rfl rfl (YP rfl rfl rfl) <| QA rfl rfl (Qi ZG rfl rfl rfl rfl (W1 rfl) rfl) <| Q3 ?_
  refine Q1 <| Q2 <| Q2 <| Q0 <| XR rfl rfl rfl <| XP rfl rfl rfl (Qy (α := Wy) QQ rfl (.d _)) <| XR rfl rfl rfl <| Q3 <| Q1 <| Qd ?_
  refine QI 0 (fun (o37 : (List Bool)) => ⟨[(8, .v (.one (.ptr 9 0)))], [(0, .cells 48 (Q6 a0)), (1, .cells 72 [Wi 4 y1.1, .mp 2]), (2, .mp (QJ y1.2.1) y1.2.2), (5, .cells 72 [Wi 4 y1.1, .mp 2]), (6, .cells 72 [Wi 4 y1.1, .mp 2]), (7, .cells 57 [Wi 4 y1.1]), (8, .cells 4 (Q6 o37)), (9, .cells 75 [.osl 8 0 ((y1.1.length : Int).toNat) ((y1.1.length : Int).toNat)]), (10, .cells 106 [.fn 56 [(9, 0), (7, 0), (10, 0)]])], [(4, some ⟨54, 1, (Enc.encL y1.1).length, []⟩)], 11, 38, []⟩) (fun (o37 : (List Bool)) => (some (.inr o37)) = some y35) ?_ ?_
  refine Qb h1 (fun o38 hl2 h1 => ?_)
  refine QH (m15o_l4 a1 y1) (fun s2 => ⟨[(3, .v (.one (.ptr 6 0))), (8, .v (.one (.ptr 9 0))), (9, .v (.one (.ptr 10 0))), (18, .v (.one (We a1))), (19, .v (.one (Wg (a1.length : Int)))), (20, .v (.one (Wg s2.1)))], [(0, .cells 48 (Q6 a0)), (1, .cells 72 [Wi 4 y1.1, .mp 2]), (2, .mp (QJ y1.2.1) y1.2.2), (5, .cells 72 [Wi 4 y1.1, .mp 2]), (6, .cells 72 [Wi 4 y1.1, .mp 2]), (7, .cells 57 [Wi 4 y1.1]), (8, .cells 4 (Q6 s2.2)), (9, .cells 75 [.osl 8 0 ((y1.1.length : Int).toNat) ((y1.1.length : Int).toNat)]), (10, .cells 106 [.fn 56 [(9, 0), (7, 0), (10, 0)]])], [(4, some ⟨54, 1, (Enc.encL y1.1).length, []⟩)], 11, 38, []⟩) (0, (List.replicate (y1.1.length : Int).toNat false)) o38 (Qh (XK rfl (XK rfl (XK rfl (XK rfl (XK rfl (XK rfl XJ)))))) (W8 rfl (W8 rfl (W8 rfl (W8 rfl (W8 rfl (W8 rfl (W8 rfl (W8 rfl (W8 rfl W7))))))))) (W4 rfl W3) rfl (Nat.le_trans hv1 (W1 rfl)) rfl rfl rfl (Wo rfl (Wp rfl rfl (Wn rfl (Wp rfl rfl (Wp rfl rfl (Wp rfl rfl (Wo rfl (Wp rfl rfl (Wp rfl rfl Wm))))))))) rfl rfl) hl2 (fun s2 n2 oo2 h2 ho2 => ?_)
  unfold m15o_l4 at h2
  refine Q2 <| Q0 <| XP rfl rfl rfl (Q4 rfl rfl rfl) <| Q3 <| Q1 <| Q2 ?_
  refine Qg (b := (decide (s2.1 < (a1.length : Int)))) rfl (fun c39 => ?_) (fun c39 => ?_)
  replace h2 := Qu c39 h2
  refine Qj <| Q1 <| Q2 <| Qd <| Q2 <| Q0 ?_
  refine Qb h2 (fun x40 hx40 h2 => ?_)
  refine XP rfl rfl rfl (Qq (α := Wy) QQ rfl (.d _) rfl hx40) <| XP rfl rfl rfl (QK Y6 rfl rfl) <| XS rfl rfl rfl <| Q3 <| Q1 <| Q2 <| Q0 <| XP rfl rfl rfl (Q8 JJ rfl) <| XP rfl rfl rfl (Q7 Yw rfl rfl rfl) <| XR rfl rfl rfl <| XP rfl rfl rfl (Jo (M := y1.2) (k := x40) Yv Yb rfl rfl rfl) <| XR rfl rfl rfl <| XP rfl rfl rfl (Qe rfl rfl) <| XP rfl rfl rfl (Qe rfl rfl) ?_
  refine XS rfl rfl rfl <| XS rfl rfl rfl <| Q3 <| Q1 <| Q2 <| Q2 <| Q0 <| XR rfl rfl rfl <| XP rfl rfl rfl (Jp rfl) <| Q3 <| Q1 ?_
  refine Qg (b := (!(Jr y1.2 x40))) rfl (fun c41 => ?_) (fun c41 => ?_)
  replace h2 := Qu c41 h2
  refine Q2 <| Q0 <| XS rfl rfl rfl <| XS rfl rfl rfl <| Q3 <| Q1 <| Qw ?_
  have e := XN h2; subst e
  have e_ : _ = _ := ho2
  subst e_
  try dsimp only [Sum.elim_inl, Sum.elim_inr] at h1
  have e := XN h1; subst e
  exact hQ1 _ _ _ (.inr rfl) rfl (show StLe _ _ ⟨[(6, .v (.one (Wf))), (7, .v (.one (Wg 9)))], [(0, .cells 48 (Q6 a0)), (1, .cells 72 [Wi 4 y1.1, .mp 2]), (2, .mp (QJ y1.2.1) y1.2.2), (5, .cells 72 [Wi 4 y1.1, .mp 2])], [(4, some ⟨54, 1, (Enc.encL y1.1).length, []⟩)], 11, 38, []⟩ from (Qh (XK rfl (XK rfl XJ)) (W8 rfl (W8 rfl (W8 rfl (W8 rfl W7)))) (W4 rfl W3) rfl (Nat.le_trans hv1 (W1 rfl)) rfl rfl rfl (Wo rfl (Wp rfl rfl (Wn rfl (Wp rfl rfl Wm)))) rfl rfl))
  replace h2 := Qv c41 h2
  refine Qj <| Q1 <| Q0 <| XP rfl rfl rfl (Q7 ZG rfl rfl rfl) <| XR rfl rfl rfl ?_
  refine Qb h2 (fun x42 hx42 h2 => ?_)
  refine Q9 rfl rfl (W1 rfl) (QS (hp1' := [(9, .cells 75 [.osl 8 0 ((y1.1.length : Int).toNat) ((y1.1.length : Int).toNat)]), (8, .cells 4 (Q6 x42)), (7, .cells 57 [Wi 4 y1.1]), (10, .cells 106 [.fn 56 [(9, 0), (7, 0), (10, 0)]])]) (tk1' := [(4, some ⟨54, 1, (Enc.encL y1.1).length, []⟩)]) (hpF := [(0, .cells 48 (Q6 a0)), (1, .cells 72 [Wi 4 y1.1, .mp 2]), (2, .mp (QJ y1.2.1) y1.2.2), (5, .cells 72 [Wi 4 y1.1, .mp 2]), (6, .cells 72 [Wi 4 y1.1, .mp 2])]) (tkF := []) (res2 := Qr []) (nx2 := 11) [9, 8, 7, 4, 10] rfl rfl (m56f11_ok (J7 y1.2 x40) ((y1.1.length : Int).toNat) s2.2 y1.1 x42 hx42) rfl rfl (XW rfl rfl (XV rfl (XW rfl rfl (XW rfl rfl XT)))) rfl rfl (Wb rfl (Wd rfl (Wb rfl (Wb rfl Wa)))) (W6 rfl W5) (W8 rfl (W8 rfl (W8 rfl (W8 rfl (W8 rfl W7))))) W3 rfl rfl rfl rfl rfl (Wp rfl rfl (Wo rfl (Wp rfl rfl (Wp rfl rfl Wm)))) rfl rfl rfl rfl) <| Q3 <| Qk <| Q1 <| Q0 <| XP rfl rfl rfl (Q4 rfl rfl rfl) <| XR rfl rfl rfl <| Q3 ?_
  have e := XN h2; subst e
  refine QD ((QW (s2.1 + 1)), x42) (Qh (XK rfl (XK rfl (XK rfl (XK rfl (XK rfl (XK rfl XJ)))))) (W8 rfl (W8 rfl (W8 rfl (W8 rfl (W8 rfl (W8 rfl (W8 rfl (W8 rfl (W8 rfl W7))))))))) (W4 rfl W3) rfl (Nat.le_trans hv1 (W1 rfl)) rfl rfl rfl (Wo rfl (Wp rfl rfl (Wn rfl (Wp rfl rfl (Wp rfl rfl (Wp rfl rfl (Wo rfl (Wp rfl rfl (Wp rfl rfl Wm))))))))) rfl rfl) ho2
  replace h2 := Qv c39 h2
  refine QN <| Qf <| Qf ?_
  have e := XN h2; subst e
  have e_ : _ = _ := ho2
  subst e_
  exact QF s2.2 (Qh (XK rfl XJ) (W8 rfl (W8 rfl (W8 rfl (W8 rfl (W8 rfl (W8 rfl (W8 rfl (W8 rfl (W8 rfl W7))))))))) (W4 rfl W3) rfl (Nat.le_trans hv1 (W1 rfl)) rfl rfl rfl (Wo rfl (Wp rfl rfl (Wn rfl (Wp rfl rfl (Wp rfl rfl (Wp rfl rfl (Wo rfl (Wp rfl rfl (Wp rfl rfl Wm))))))))) rfl rfl) h1
  intro o37 h1
  refine Qx <| Q1 <| Q2 <| Q0 <| XP rfl rfl rfl (Q7 Z7 rfl rfl rfl) <| XS rfl rfl rfl <| XS rfl rfl rfl <| Q3 <| Q1 <| Qw ?_
  have e := XN h1; subst e
  exact hQ1 _ _ _ (.inr rfl) rfl (show StLe _ _ ⟨[(6, .v (.one (.osl 8 0 ((y1.1.length : Int).toNat) ((y1.1.length : Int).toNat)))), (7, .v (.one (Wg 0)))], [(0, .cells 48 (Q6 a0)), (1, .cells 72 [Wi 4 y1.1, .mp 2]), (2, .mp (QJ y1.2.1) y1.2.2), (5, .cells 72 [Wi 4 y1.1, .mp 2]), (8, .cells 4 (Q6 o37))], [(4, some ⟨54, 1, (Enc.encL y1.1).length, []⟩)], 11, 38, []⟩ from (Qh (XK rfl (XK rfl XJ)) (W8 rfl (W8 rfl (W8 rfl (W8 rfl (W8 rfl W7))))) (W4 rfl W3) rfl (Nat.le_trans hv1 (W1 rfl)) rfl rfl rfl (Wo rfl (Wp rfl rfl (Wn rfl (Wp rfl rfl (Wo rfl Wm))))) rfl rfl))
 refine KA (C := fun q_ => CallM Try.prog 35 [.agg [Wi 4 y1.1, .mp 2], .one (Wi 4 y1.1), .one (We a1)] ⟨[(0, .cells 48 (Q6 a0)), (1, .cells 72 [Wi 4 y1.1, .mp 2]), (2, .mp (QJ y1.2.1) y1.2.2), (5, .cells 72 [Wi 4 y1.1, .mp 2])], [(4, some ⟨54, 1, (Enc.encL y1.1).length, []⟩)], 6⟩ (Qr (((Sum.elim (fun (y32 : Unit) => ([.one (Wf), .one (Wg 9)] : List AV)) (fun (y33 : (List Bool)) => ([.one (.osl 8 0 ((y1.1.length : Int).toNat) ((y1.1.length : Int).toNat)), .one (Wg 0)] : List AV)))) q_)) ⟨(((Sum.elim (fun (y32 : Unit) => (⟨[(6, .v (.one (Wf))), (7, .v (.one (Wg 9)))], [(0, .cells 48 (Q6 a0)), (1, .cells 72 [Wi 4 y1.1, .mp 2]), (2, .mp (QJ y1.2.1) y1.2.2), (5, .cells 72 [Wi 4 y1.1, .mp 2])], [(4, some ⟨54, 1, (Enc.encL y1.1).length, []⟩)], 11, 38, []⟩ : St)) (fun (y33 : (List Bool)) => (⟨[(6, .v (.one (.osl 8 0 ((y1.1.length : Int).toNat) ((y1.1.length : Int).toNat)))), (7, .v (.one (Wg 0)))], [(0, .cells 48 (Q6 a0)), (1, .cells 72 [Wi 4 y1.1, .mp 2]), (2, .mp (QJ y1.2.1) y1.2.2), (5, .cells 72 [Wi 4 y1.1, .mp 2]), (8, .cells 4 (Q6 y33))], [(4, some ⟨54, 1, (Enc.encL y1.1).length, []⟩)], 11, 38, []⟩ : St)))) q_).hp, (((Sum.elim (fun (y32 : Unit) => (⟨[(6, .v (.one (Wf))), (7, .v (.one (Wg 9)))], [(0, .cells 48 (Q6 a0)), (1, .cells 72 [Wi 4 y1.1, .mp 2]), (2, .mp (QJ y1.2.1) y1.2.2), (5, .cells 72 [Wi 4 y1.1, .mp 2])], [(4, some ⟨54, 1, (Enc.encL y1.1).length, []⟩)], 11, 38, []⟩ : St)) (fun (y33 : (List Bool)) => (⟨[(6, .v (.one (.osl 8 0 ((y1.1.length : Int).toNat) ((y1.1.length : Int).toNat)))), (7, .v (.one (Wg 0)))], [(0, .cells 48 (Q6 a0)), (1, .cells 72 [Wi 4 y1.1, .mp 2]), (2, .mp (QJ y1.2.1) y1.2.2), (5, .cells 72 [Wi 4 y1.1, .mp 2]), (8, .cells 4 (Q6 y33))], [(4, some ⟨54, 1, (Enc.encL y1.1).length, []⟩)], 11, 38, []⟩ : St)))) q_).tk, (((Sum.elim (fun (y32 : Unit) => (⟨[(6, .v (.one (Wf))), (7, .v (.one (Wg 9)))], [(0, .cells 48 (Q6 a0)), (1, .cells 72 [Wi 4 y1.1, .mp 2]), (2, .mp (QJ y1.2.1) y1.2.2), (5, .cells 72 [Wi 4 y1.1, .mp 2])], [(4, some ⟨54, 1, (Enc.encL y1.1).length, []⟩)], 11, 38, []⟩ : St)) (fun (y33 : (List Bool)) => (⟨[(6, .v (.one (.osl 8 0 ((y1.1.length : Int).toNat) ((y1.1.length : Int).toNat)))), (7, .v (.one (Wg 0)))], [(0, .cells 48 (Q6 a0)), (1, .cells 72 [Wi 4 y1.1, .mp 2]), (2, .mp (QJ y1.2.1) y1.2.2), (5, .cells 72 [Wi 4 y1.1, .mp 2]), (8, .cells 4 (Q6 y33))], [(4, some ⟨54, 1, (Enc.encL y1.1).length, []⟩)], 11, 38, []⟩ : St)))) q_).nx⟩) hc34 h0 (fun y32 hc34 h0 => ?_) (fun y33 hc34 h0 => ?_)
 replace hc34 : CallM Try.prog 35 [.agg [Wi 4 y1.1, .mp 2], .one (Wi 4 y1.1), .one (We a1)] ⟨[(0, .cells 48 (Q6 a0)), (1, .cells 72 [Wi 4 y1.1, .mp 2]), (2, .mp (QJ y1.2.1) y1.2.2), (5, .cells 72 [Wi 4 y1.1, .mp 2])], [(4, some ⟨54, 1, (Enc.encL y1.1).length, []⟩)], 6⟩ (Qr [.one (Wf), .one (Wg 9)]) ⟨[(0, .cells 48 (Q6 a0)), (1, .cells 72 [Wi 4 y1.1, .mp 2]), (2, .mp (QJ y1.2.1) y1.2.2), (5, .cells 72 [Wi 4 y1.1, .mp 2])], [(4, some ⟨54, 1, (Enc.encL y1.1).length, []⟩)], 11⟩ := hc34
 refine Q9 rfl rfl (W1 rfl) (QP rfl rfl rfl hc34 rfl (W8 rfl (W8 rfl (W8 rfl (W8 rfl W7)))) (W4 rfl W3)) <| XR rfl rfl rfl <| XP rfl rfl rfl (Qe rfl rfl) <| XP rfl rfl rfl (Qe rfl rfl) <| XS rfl rfl rfl <| XS rfl rfl rfl <| Q3 <| Q1 <| Q2 <| Q2 <| Q0 <| XR rfl rfl rfl <| XP rfl rfl rfl (Q4 rfl rfl rfl) <| Q3 ?_
 refine Q1 ?_
 refine Qg rfl (fun _ => ?_) (fun h => nomatch h)
 refine Q2 <| Q0 <| XR rfl rfl rfl <| XS rfl rfl rfl <| XS rfl rfl rfl <| Q3 <| Q1 <| Qw ?_
 have e := XN h0; subst e
 exact hQ0 _ _ _ (.inr rfl) rfl (Qh (XM rfl (.sub (.nil _)) (XK rfl XJ)) (W8 rfl W7) W3 rfl (Nat.le_trans hv0 (W1 rfl)) rfl rfl rfl (Wo rfl Wm) rfl rfl)
 replace hc34 : CallM Try.prog 35 [.agg [Wi 4 y1.1, .mp 2], .one (Wi 4 y1.1), .one (We a1)] ⟨[(0, .cells 48 (Q6 a0)), (1, .cells 72 [Wi 4 y1.1, .mp 2]), (2, .mp (QJ y1.2.1) y1.2.2), (5, .cells 72 [Wi 4 y1.1, .mp 2])], [(4, some ⟨54, 1, (Enc.encL y1.1).length, []⟩)], 6⟩ (Qr [.one (.osl 8 0 ((y1.1.length : Int).toNat) ((y1.1.length : Int).toNat)), .one (Wg 0)]) ⟨[(0, .cells 48 (Q6 a0)), (1, .cells 72 [Wi 4 y1.1, .mp 2]), (2, .mp (QJ y1.2.1) y1.2.2), (5, .cells 72 [Wi 4 y1.1, .mp 2]), (8, .cells 4 (Q6 y33))], [(4, some ⟨54, 1, (Enc.encL y1.1).length, []⟩)], 11⟩ := hc34
 refine Q9 rfl rfl (W1 rfl) (QP rfl rfl rfl hc34 rfl (W8 rfl (W8 rfl (W8 rfl (W8 rfl W7)))) (W4 rfl W3)) <| XR rfl rfl rfl <| XP rfl rfl rfl (Qe rfl rfl) <| XP rfl rfl rfl (Qe rfl rfl) <| XS rfl rfl rfl <| XS rfl rfl rfl <| Q3 <| Q1 <| Q2 <| Q2 <| Q0 <| XR rfl rfl rfl <| XP rfl rfl rfl (Q4 rfl rfl rfl) <| Q3 ?_
 refine Q1 ?_
 refine Qg rfl (fun h => nomatch h) (fun _ => ?_)
 refine Qj <| Q1 <| Q2 <| Q0 <| XS rfl rfl rfl <| Q3 <| Q1 <| Q2 <| Q2 <| Q0 <| XR rfl rfl rfl <| XP rfl rfl rfl (Y7 J5 rfl) <| XR rfl rfl rfl <| Q3 ?_
 refine Q1 <| Qd ?_
 refine QI 0 (fun (o43 : (List Dcl)) => ⟨[(9, .v (.one (Wi 11 o43)))], [(0, .cells 48 (Q6 a0)), (1, .cells 72 [Wi 4 y1.1, .mp 2]), (2, .mp (QJ y1.2.1) y1.2.2), (5, .cells 72 [Wi 4 y1.1, .mp 2]), (8, .cells 4 (Q6 y33))], [(4, some ⟨54, 1, (Enc.encL y1.1).length, []⟩), (11, some ⟨48, 23, (Enc.encL o43).length, []⟩)], 12, 48, []⟩) (fun (o43 : (List Dcl)) => (some (o43, 0)) = some r) ?_ ?_
 refine Y0 (t := 9) 48 23 rfl ?_
 refine Qb h0 (fun o44 hl1 h0 => ?_)
 refine QH (m15o_l5 nn a0 y33 y1) (fun s1 => ⟨[(8, .v (.one (.osl 8 0 ((y1.1.length : Int).toNat) ((y1.1.length : Int).toNat)))), (9, .v (.one (Wi 11 s1.1))), (31, .v (.one (.osl 0 0 nn nn))), (32, .v (.one (Wg ((nn : Nat) : Int)))), (33, .v (.one (Wg s1.2)))], [(0, .cells 48 (Q6 a0)), (1, .cells 72 [Wi 4 y1.1, .mp 2]), (2, .mp (QJ y1.2.1) y1.2.2), (5, .cells 72 [Wi 4 y1.1, .mp 2]), (8, .cells 4 (Q6 y33))], [(4, some ⟨54, 1, (Enc.encL y1.1).length, []⟩), (11, some ⟨48, 23, (Enc.encL s1.1).length, []⟩)], 12, 48, []⟩) (([] : List Dcl), 0) o44 (Qh (XK rfl (XK rfl (XK rfl (XK rfl (XK rfl XJ))))) (W8 rfl (W8 rfl (W8 rfl (W8 rfl (W8 rfl W7))))) (W4 rfl (W4 rfl W3)) rfl (Nat.le_trans hv0 (W1 rfl)) rfl rfl rfl (Wo rfl (Wp rfl rfl (Wn rfl (Wp rfl rfl (Wo rfl Wm))))) rfl rfl) hl1 (fun s1 n1 oo1 h1 ho1 => ?_)
 unfold m15o_l5 at h1
 refine Q2 <| Q0 <| XP rfl rfl rfl (Q4 rfl rfl rfl) <| Q3 <| Q1 <| Q2 ?_
 refine Qg (b := (decide (s1.2 < ((nn : Nat) : Int)))) rfl (fun c45 => ?_) (fun c45 => ?_)
 replace h1 := Qu c45 h1
 refine Qj <| Q1 <| Q2 <| Qd <| Q2 <| Q0 <| XR rfl rfl rfl ?_
 refine Qb h1 (fun x46 hx46 h1 => ?_)
 refine QO h1 (fun g47 h1 => ?_)
 refine XP rfl rfl rfl (Jk (α := Dcl) J5 rfl rfl hx46 g47) <| XP rfl rfl rfl (Yq (α := Dcl) (ys := [Wg x46.kind, YK x46.name, Wg x46.params, Wg x46.ty.kind, Wg x46.ty.index, YK x46.ty.name, We x46.ty.levels, We x46.ty.kids, Wg x46.value.kind, Wg x46.value.index, YK x46.value.name, We x46.value.levels, We x46.value.kids, Wg x46.fixed, We x46.ctors, Wg x46.rcr.params, Wg x46.rcr.ty.kind, Wg x46.rcr.ty.index, YK x46.rcr.ty.name, We x46.rcr.ty.levels, We x46.rcr.ty.kids, We x46.rcr.rules, We x46.funs]) J3 rfl rfl hx46 rfl) <| Q9 rfl rfl (W1 rfl) (Ql Z8 rfl) <| XS rfl rfl rfl <| QA rfl rfl (Jb (x46 : Dcl) J3 rfl rfl rfl rfl rfl) <| Q3 <| Q1 <| Q2 <| Q0 <| XR rfl rfl rfl <| XR rfl rfl rfl ?_
 refine Qb h1 (fun x48 hx48 h1 => ?_)
 refine QO h1 (fun g49 h1 => ?_)
 refine XP rfl rfl rfl (Jk (α := Bool) Z6 rfl rfl hx48 g49) <| XP rfl rfl rfl (YI (α := Bool) (m := s1.2) (f := 0) Gv rfl rfl hx48 rfl) <| Q3 <| Q1 ?_
 refine Qg (b := x48) rfl (fun c50 => ?_) (fun c50 => ?_)
 replace h1 := Qu c50 h1
 refine Q0 <| XR rfl rfl rfl <| XP rfl rfl rfl (Jj (x46 : Dcl) J3 rfl rfl) <| Q9 rfl rfl (W1 rfl) (OpOK.lit1CE (x46 : Dcl) J5 Z8 rfl rfl (W1 rfl) rfl) ?_
 refine QO h1 (fun g51 h1 => ?_)
 refine Q9 rfl rfl (W1 rfl) (QU (α := Dcl) J5 el_48 rfl rfl rfl rfl rfl (.app _ _) g51) <| XS rfl rfl rfl <| Q3 <| Qk <| Q1 <| Q0 <| XP rfl rfl rfl (Q4 rfl rfl rfl) <| XR rfl rfl rfl <| Q3 ?_
 have e := XN h1; subst e
 refine QD ((s1.1 ++ ([x46])), (QW (s1.2 + 1))) (Qh (XK rfl (XK rfl (XK rfl (XK rfl (XK rfl XJ))))) (W8 rfl (W8 rfl (W8 rfl (W8 rfl (W8 rfl W7))))) (W4 rfl (W4 rfl W3)) rfl (Nat.le_trans hv0 (W1 rfl)) rfl rfl rfl (Wo rfl (Wp rfl rfl (Wn rfl (Wp rfl rfl (Wo rfl Wm))))) rfl rfl) ho1
 replace h1 := Qv c50 h1
 refine Qj <| Qk <| Q1 <| Q0 <| XP rfl rfl rfl (Q4 rfl rfl rfl) <| XR rfl rfl rfl <| Q3 ?_
 have e := XN h1; subst e
 refine QD (s1.1, (QW (s1.2 + 1))) (Qh (XK rfl (XK rfl (XK rfl (XK rfl (XK rfl XJ))))) (W8 rfl (W8 rfl (W8 rfl (W8 rfl (W8 rfl W7))))) (W4 rfl (W4 rfl W3)) rfl (Nat.le_trans hv0 (W1 rfl)) rfl rfl rfl (Wo rfl (Wp rfl rfl (Wn rfl (Wp rfl rfl (Wo rfl Wm))))) rfl rfl) ho1
 replace h1 := Qv c45 h1
 refine QN <| Qf <| Qf ?_
 have e := XN h1; subst e
 have e_ : _ = _ := ho1
 subst e_
 exact QF s1.1 (Qh (XK rfl XJ) (W8 rfl (W8 rfl (W8 rfl (W8 rfl (W8 rfl W7))))) (W4 rfl (W4 rfl W3)) rfl (Nat.le_trans hv0 (W1 rfl)) rfl rfl rfl (Wo rfl (Wp rfl rfl (Wn rfl (Wp rfl rfl (Wo rfl Wm))))) rfl rfl) h0
 intro o43 h0
 refine Qx <| Q1 <| Q2 <| Q0 <| XR rfl rfl rfl <| XS rfl rfl rfl <| XS rfl rfl rfl <| Q3 <| Q1 <| Qw ?_
 have e := XN h0; subst e
 exact hQ0 _ _ _ (.inr rfl) rfl (Qh (XM rfl (.sub (.app _ _ _)) (XK rfl XJ)) (W8 rfl W7) W3 rfl (Nat.le_trans hv0 (W1 rfl)) rfl rfl rfl (Wo rfl Wm) rfl rfl)
 replace hc4 : CallM Try.prog 34 [.one (.osl 0 0 nn nn)] ⟨[(0, .cells 48 (Q6 a0))], [], 1⟩ (Qr [.agg [Wf, .d (.v (.map none))], .one (Wg 8)]) ⟨[(0, .cells 48 (Q6 a0)), (1, .cells 72 [Wf, .d (.v (.map none))])], [], 5⟩ := hc4
 refine Q9 rfl rfl (W1 rfl) (QP rfl rfl rfl hc4 rfl (W8 rfl W7) W3) <| XR rfl rfl rfl <| XP rfl rfl rfl (Qe rfl rfl) <| XP rfl rfl rfl (Qe rfl rfl) <| Q9 rfl rfl (W1 rfl) (Ql YJ rfl) <| QA rfl rfl (Qi J2 rfl rfl rfl rfl (W1 rfl) rfl) <| XS rfl rfl rfl <| Q3 <| Q1 <| Q2 <| Q2 <| Q0 <| XR rfl rfl rfl <| XP rfl rfl rfl (Q4 rfl rfl rfl) ?_
 refine Q3 <| Q1 ?_
 refine Qg rfl (fun _ => ?_) (fun h => nomatch h)
 refine Q2 <| Q0 <| XR rfl rfl rfl <| XS rfl rfl rfl <| XS rfl rfl rfl <| Q3 <| Q1 <| Qw ?_
 have e := XN h0; subst e
 exact hQ0 _ _ _ (.inr rfl) rfl (Qh (XM rfl (.sub (.nil _)) (XK rfl XJ)) (W8 rfl W7) W3 rfl (Nat.le_trans hv0 (W1 rfl)) rfl rfl rfl (Wo rfl Wm) rfl rfl)
 replace hc4 : CallM Try.prog 34 [.one (.osl 0 0 nn nn)] ⟨[(0, .cells 48 (Q6 a0))], [], 1⟩ (Qr [.agg [Wf, .d (.v (.map none))], .one (Wg 9)]) ⟨[(0, .cells 48 (Q6 a0)), (1, .cells 72 [Wf, .d (.v (.map none))])], [], 7⟩ := hc4
 refine Q9 rfl rfl (W1 rfl) (QP rfl rfl rfl hc4 rfl (W8 rfl W7) W3) <| XR rfl rfl rfl <| XP rfl rfl rfl (Qe rfl rfl) <| XP rfl rfl rfl (Qe rfl rfl) <| Q9 rfl rfl (W1 rfl) (Ql YJ rfl) <| QA rfl rfl (Qi J2 rfl rfl rfl rfl (W1 rfl) rfl) <| XS rfl rfl rfl <| Q3 <| Q1 <| Q2 <| Q2 <| Q0 <| XR rfl rfl rfl <| XP rfl rfl rfl (Q4 rfl rfl rfl) ?_
 refine Q3 <| Q1 ?_
 refine Qg rfl (fun _ => ?_) (fun h => nomatch h)
 refine Q2 <| Q0 <| XR rfl rfl rfl <| XS rfl rfl rfl <| XS rfl rfl rfl <| Q3 <| Q1 <| Qw ?_
 have e := XN h0; subst e
 exact hQ0 _ _ _ (.inr rfl) rfl (Qh (XM rfl (.sub (.nil _)) (XK rfl XJ)) (W8 rfl W7) W3 rfl (Nat.le_trans hv0 (W1 rfl)) rfl rfl rfl (Wo rfl Wm) rfl rfl)
end Go.Proofs.Ytijcchddnnnmdaa
