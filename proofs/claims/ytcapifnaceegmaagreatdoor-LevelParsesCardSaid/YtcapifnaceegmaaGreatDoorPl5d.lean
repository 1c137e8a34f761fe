/- Plain laws of Parse: the lists of parts, the whole. -/
import Derived.Test.YtcapifnaceegmaaGreatDoorPl5c
namespace Go.Proofs.YtcapifnaceegmaaGreatDoor
open Go.RowKit
set_option linter.unusedSimpArgs false
set_option linter.unusedVariables false

theorem tail_step (n : Nat) (t : Bs) : tailP (n + 1) t = match tkc 44 t with
    | none => some ([], t)
    | some r2 => match partP (sp r2) with
      | none => none
      | some (x, r) => match tailP n (sp r) with
        | none => none
        | some (xs, r3) => some (x :: xs, r3) := by
  show (match tkc 44 t with
    | none => some ([], t)
    | some r2 => restP (n + 1) r2) = _
  cases tkc 44 t with
  | none => rfl
  | some r2 => exact rest_tail n r2

theorem joinsL_wf : ∀ (xs : List (Lvl × Int)) (o : Lvl), WF o.vs → (∀ x ∈ xs, PartOK x) → WF (joinsL o xs).vs
  | [], o, h, _ => h
  | x :: xs, o, h, hx => joinsL_wf xs (joinL o x.1) (wf_join h (hx x List.mem_cons_self).wf) fun y hy => hx y (List.mem_cons_of_mem _ hy)

theorem ref_loop {s : Bs} (hs : s.length ≤ 100000) : ∀ (n k : Nat) (e : Int) (L : Lvl) (fuel : Nat), k ≤ s.length → s.length - k ≤ n → n + 3 ≤ fuel → WF L.vs → ∃ o, loopN (m27_l0 s) fuel ((k : Int), false, e, L.c, L.vs) = some o ∧ match tailP (n + 1) (s.drop k) with
    | some (xs, r) => ∃ k' : Nat, k' ≤ s.length ∧ s.drop k' = r ∧ o = ((k' : Int), false, firstE e xs, (joinsL L xs).c, (joinsL L xs).vs)
    | none => o.2.1 = true ∧ ∃ k' : Nat, o.1 = (k' : Int) ∧ k' ≤ s.length := by
  intro n
  induction n with
  | zero =>
    intro k e L fuel hk hn hf hw
    have h0 : s.drop k = [] := List.drop_eq_nil_of_le (by omega)
    obtain ⟨f, rfl⟩ : ∃ f, fuel = f + 1 := ⟨fuel - 1, by omega⟩
    obtain ⟨h1, -⟩ := m58_eq hs hk 44 (ci := 44) rfl false e
    rw [h0] at h1
    rw [loopN]
    unfold m27_l0
    dsimp only
    rw [Bool.not_false, cond_true, h1, Option.bind_some]
    refine ⟨_, rfl, ?_⟩
    rw [h0]
    exact ⟨k, hk, h0, rfl⟩
  | succ n ih =>
    intro k e L fuel hk hn hf hw
    obtain ⟨f, rfl⟩ : ∃ f, fuel = f + 1 := ⟨fuel - 1, by omega⟩
    obtain ⟨h1, hr1⟩ := m58_eq hs hk 44 (ci := 44) rfl false e
    rw [loopN]
    unfold m27_l0
    dsimp only
    rw [Bool.not_false, cond_true, h1, Option.bind_some, tail_step]
    cases h44 : tkc 44 (s.drop k) with
    | none =>
      refine ⟨_, rfl, k, hk, rfl, ?_⟩
      rfl
    | some r2 =>
      obtain ⟨hk2, hd2⟩ := hr1 r2 h44
      simp only [Option.isSome_some, cond_true, Option.bind_some]
      obtain ⟨L2, k', bad', e', a1, a2, a3, a4, a5⟩ := m59_eq hs hk2 false e
      rw [a1, Option.bind_some, guard_t (g2 hw.len a3.wf.len)]
      dsimp only
      have a6 := a5 rfl
      rw [hd2] at a6
      cases hp : partP (sp r2) with
      | none =>
        rw [hp] at a6
        have hb : bad' = true := a6
        subst hb
        obtain ⟨f', rfl⟩ : ∃ f', f = f' + 1 := ⟨f - 1, by omega⟩
        refine ⟨((k' : Int), true, e', (joinL ⟨L.c, L.vs⟩ ⟨L2.c, L2.vs⟩).c, (joinL ⟨L.c, L.vs⟩ ⟨L2.c, L2.vs⟩).vs), ?_, rfl, k', rfl, a2⟩
        rw [loopN]
        rfl
      | some q =>
        obtain ⟨x, r⟩ := q
        rw [hp] at a6
        obtain ⟨b1, b2, b3, b4⟩ := a6
        subst b1 b2 b3
        have l1 := part_len hp
        have l2 := sp_len r2
        have l3 : r2.length = s.length - (k + 1) := by rw [← hd2, List.length_drop]
        have l4 : (sp r).length ≤ r.length := sp_len r
        have l5 : s.length - k' = (sp r).length := by rw [← b4, List.length_drop]
        obtain ⟨o, ho, ho'⟩ := ih k' (if e = 0 then x.2 else e) (joinL L x.1) f a2 (by omega) (by omega) (wf_join hw a3.wf)
        refine ⟨o, ho, ?_⟩
        rw [b4] at ho'
        dsimp only
        cases ht : tailP (n + 1) (sp r) with
        | none => rw [ht] at ho'; exact ho'
        | some q => rw [ht] at ho'; exact ho'

/-- the level of the parts -/
theorem sum_step : ∀ (xs : List (Lvl × Int)) (M : IMap) (C : Int) (vs : List LV), (∀ x ∈ xs, PartOK x) → RMap M vs → GoodL ⟨C, vs⟩ → C ≤ 100 → (∀ y ∈ vs, y.2 ≤ 100) →
    ∃ vs', RMap (foldM M xs) vs' ∧ GoodL ⟨foldC C xs, vs'⟩ ∧ foldC C xs ≤ 100 ∧ (∀ y ∈ vs', y.2 ≤ 100) ∧ joinsL (trimL ⟨C, vs⟩) xs = trimL ⟨foldC C xs, vs'⟩
  | [], M, C, vs, _, h1, h2, h3, h4 => ⟨vs, h1, h2, h3, h4, rfl⟩
  | x :: xs, M, C, vs, hx, h1, h2, h3, h4 => by
    have p := hx x List.mem_cons_self
    have gx : GoodL x.1 := ⟨p.wf, p.c.1, fun y hy => (p.v y hy).2.2.1⟩
    have g := good_merge h2 gx
    have e : joinL (trimL ⟨C, vs⟩) x.1 = trimL ⟨max C x.1.c, mergeV vs x.1.vs⟩ := by
      rw [join_eq, trim_vs, trim_eq h2.c h2.v, trim_eq g.c g.v]
      have hmono : topOf 0 vs ≤ topOf 0 (mergeV vs x.1.vs) := topOf_mono fun y hy => by
        obtain ⟨z, hz, -, h⟩ := merge_ge_l h2.wf p.wf hy
        exact ⟨z, hz, h⟩
      rw [trimC_more h2.c p.c.1 merge_ne_l hmono]
    have := sum_step xs (x.1.vs.foldl rzM M) (max C x.1.c) (mergeV vs x.1.vs) (fun y hy => hx y (List.mem_cons_of_mem _ hy)) (h1.merge p.wf) g (by have := p.c.2; omega) (fun y hy => (merge_src h2.wf p.wf hy).elim (h4 y) fun h => (p.v y h).2.2.2)
    obtain ⟨vs', b1, b2, b3, b4, b5⟩ := this
    refine ⟨vs', b1, b2, b3, b4, ?_⟩
    show joinsL (joinL (trimL ⟨C, vs⟩) x.1) xs = _
    rw [e]; exact b5
theorem sum_all {x : Lvl × Int} {xs : List (Lvl × Int)} (hx : ∀ y ∈ x :: xs, PartOK y) : ∃ vs', RMap (foldM imNil (x :: xs)) vs' ∧ GoodL ⟨foldC 0 (x :: xs), vs'⟩ ∧ foldC 0 (x :: xs) ≤ 100 ∧ (∀ y ∈ vs', y.2 ≤ 100) ∧ joinsL x.1 xs = trimL ⟨foldC 0 (x :: xs), vs'⟩ := by
  have p := hx x List.mem_cons_self
  have gx : GoodL x.1 := ⟨p.wf, p.c.1, fun y hy => (p.v y hy).2.2.1⟩
  have h := sum_step xs (x.1.vs.foldl rzM imNil) x.1.c x.1.vs (fun y hy => hx y (List.mem_cons_of_mem _ hy)) (by have := RMap.nil.merge p.wf; rw [mergeV_nil_l] at this; exact this) gx p.c.2 (fun y hy => (p.v y hy).2.2.2)
  have e1 : trimL ⟨x.1.c, x.1.vs⟩ = x.1 := p.tr
  rw [e1] at h
  have e2 : foldC 0 (x :: xs) = foldC x.1.c xs := by
    show foldC (max 0 x.1.c) xs = _
    have := p.c.1
    rw [show max 0 x.1.c = x.1.c by omega]
  rw [e2]
  exact h
theorem m56_eq {C : Int} {M : IMap} {vs : List LV} (h : RMap M vs) (hg : GoodL ⟨C, vs⟩) (h3 : C ≤ 100) (h4 : ∀ y ∈ vs, y.2 ≤ 100) : m56f6 C M = some (0, (trimL ⟨C, vs⟩).c, (trimL ⟨C, vs⟩).vs) := by
  have h2 := h.ok.2
  have hlen : (imKeys M).length ≤ 100000 := by
    have := h.wf.len
    rw [← h2, List.length_map] at this; exact this
  have key := fold_loop (step := m56f6_l0 M) (l := imKeys M) (fun out k => out ++ [(k, imVal M k)]) (fun k s => s.length = k) (by omega) (fun k y s hy hs => by
    have hk := (List.getElem?_eq_some_iff.1 hy).1
    refine ⟨?_, by simp [hs]⟩
    unfold m56f6_l0
    dsimp only
    rw [decide_eq_true (by omega : (k : Int) < (imKeys M).length), cond_true, idx_nat (Int.natCast_nonneg _) (by simpa using hy), Option.bind_some, guard_t (ble_t (by simp; omega))]) (fun s _ => by unfold m56f6_l0; dsimp only; rw [decide_eq_false (by omega), cond_false]) [] rfl
  unfold m56f6 m83f7
  rw [Option.bind_some, guard_t h.ok.1, key.1, foldl_snoc, List.nil_append, h2, Option.bind_some, guard_t (ble_t h.wf.len)]
  have hb : bigB ⟨C, vs⟩ = false := big_no (fun j y _ hy => h4 y (List.mem_of_getElem? hy)) h3
  unfold limL
  rw [hb, if_neg Bool.false_ne_true]

theorem rest_ok : ∀ (n : Nat) (t : Bs) (xs : List (Lvl × Int)) (r : Bs), restP n t = some (xs, r) → (∀ x ∈ xs, PartOK x) ∧ xs ≠ [] ∧ r.length ≤ t.length
  | 0, t, xs, r, h => by cases h
  | n + 1, t, xs, r, h => by
    unfold restP at h
    cases hp : partP (sp t) with
    | none => rw [hp] at h; cases h
    | some q =>
      obtain ⟨x, r1⟩ := q
      rw [hp] at h
      dsimp only at h
      have l1 := part_len hp
      have l2 := sp_len t
      have l3 := sp_len r1
      cases h44 : tkc 44 (sp r1) with
      | none =>
        rw [h44] at h
        cases h
        exact ⟨fun y hy => by simp at hy; subst hy; exact part_ok hp, by simp, by omega⟩
      | some r2 =>
        rw [h44] at h
        dsimp only at h
        have l4 := congrArg List.length (tkc_some h44)
        rw [List.length_cons] at l4
        cases hr : restP n r2 with
        | none => rw [hr] at h; cases h
        | some q =>
          obtain ⟨xs', r3⟩ := q
          rw [hr] at h
          cases h
          obtain ⟨a1, -, a3⟩ := rest_ok n r2 xs' r hr
          refine ⟨fun y hy => ?_, by simp, by omega⟩
          rcases List.mem_cons.1 hy with rfl | hy
          · exact part_ok hp
          · exact a1 y hy

theorem eq_nil (t : Bs) : (t == ([] : Bs)) = t.isEmpty := by cases t <;> rfl
/-- the end of the program's Parse -/
theorem prog_fin {x : Lvl × Int} {xs : List (Lvl × Int)} (hx : ∀ y ∈ x :: xs, PartOK y) (r : Bs) :
    (Option.bind (cond false (some true) (some (!((r.dropWhile (· == 32)) == ([] : Bs))))) fun v8 => cond v8 (some ((⟨0, []⟩ : Lvl), (4 : Int))) (cond (firstE 0 (x :: xs) != 0) (some ((⟨0, []⟩ : Lvl), firstE 0 (x :: xs))) (Option.bind (m56f6 (foldC 0 (x :: xs)) (foldM imNil (x :: xs))) fun x11 => some ((⟨x11.2.1, x11.2.2⟩ : Lvl), x11.1)))) =
    some (if sp r = [] then (if firstE 0 (x :: xs) = 0 then (joinsL x.1 xs, 0) else (⟨0, []⟩, firstE 0 (x :: xs))) else (⟨0, []⟩, 4)) := by
  rw [cond_false, Option.bind_some]
  have e0 : (r.dropWhile (· == 32)) = sp r := rfl
  rw [e0, eq_nil]
  cases h : sp r with
  | cons a b => rfl
  | nil =>
    rw [show (!(([] : Bs)).isEmpty) = false from rfl, cond_false, if_pos rfl]
    by_cases he : firstE 0 (x :: xs) = 0
    · rw [if_pos he, show (firstE 0 (x :: xs) != 0) = false by simp [he], cond_false]
      obtain ⟨vs, b1, b2, b3, b4, b5⟩ := sum_all hx
      rw [m56_eq b1 b2 b3 b4, b5]
      rfl
    · rw [if_neg he, show (firstE 0 (x :: xs) != 0) = true by simp [he], cond_true]
theorem m54_pre (p s : Bs) (bad : Bool) (e C : Int) (M : IMap) : m54f1 p s bad e C M = some (Lib.trimPrefix s p) := by
  unfold m54f1 Lib.trimPrefix
  cases Lib.hasPrefix s p <;> rfl

theorem m26_eq {s : Bs} (hs : s.length ≤ 600) : m26 s = some (resP s) := by
  unfold m26 resP parseP m53f0
  rw [decide_eq_false (by omega : ¬ (65536 : Int) < s.length), cond_false]
  simp only [Option.bind_some]
  rw [m54_pre, Option.bind_some]
  have e0 : (s.dropWhile (· == 32)) = sp s := rfl
  rw [e0]
  have l0 := sp_len s
  cases hp : Lib.hasPrefix (sp s) [109, 97, 120] with
  | true =>
    rw [if_pos rfl, cond_true, m54_eq, Option.bind_some]
    have e1 : Lib.trimPrefix (sp s) [109, 97, 120] = (sp s).drop 3 := by unfold Lib.trimPrefix; rw [hp, if_pos rfl]; rfl
    rw [e1]
    have e2 : (((sp s).drop 3).dropWhile (· == 32)) = sp ((sp s).drop 3) := rfl
    rw [e2, (tkc_pre 40 _).1]
    have l1 := sp_len ((sp s).drop 3)
    rw [List.length_drop] at l1
    cases h40 : tkc 40 (sp ((sp s).drop 3)) with
    | none =>
      simp only [Option.isSome_none, Bool.not_false]
      have : loopN m26_l0 FUEL (true, imNil, 0, (none : Option Bs).getD (sp ((sp s).drop 3)), true, 0) = some (imNil, 0, (none : Option Bs).getD (sp ((sp s).drop 3)), true, 0) := by
        unfold FUEL
        rw [loopN]
        rfl
      rw [this, Option.bind_some]
      dsimp only
      rw [m54_eq, Option.bind_some, (tkc_pre 41 _).1]
      cases tkc 41 ((none : Option Bs).getD (sp ((sp s).drop 3))) <;> rfl
    | some t =>
      have l2 := congrArg List.length (tkc_some h40)
      rw [List.length_cons] at l2
      simp only [Option.isSome_some, Bool.not_true, Option.getD_some]
      obtain ⟨o, ho, ho'⟩ := prog_loop (s.length + 1) t imNil 0 0 FUEL (by omega) (by omega) (by unfold FUEL; omega)
      rw [ho, Option.bind_some]
      cases hr : restP (s.length + 1) t with
      | none =>
        rw [hr] at ho'
        have hb : o.2.2.2.1 = true := ho'
        rw [m54_eq, Option.bind_some, (tkc_pre 41 _).1, hb]
        cases tkc 41 o.2.2.1 <;> rfl
      | some q =>
        obtain ⟨xs, r⟩ := q
        rw [hr] at ho'
        dsimp only at ho' ⊢
        subst ho'
        dsimp only
        rw [m54_eq, Option.bind_some, (tkc_pre 41 _).1]
        obtain ⟨a1, a2, a3⟩ := rest_ok _ _ _ _ hr
        cases h41 : tkc 41 r with
        | none => rfl
        | some r2 =>
          simp only [Option.isSome_some, Bool.not_true, cond_false, Option.bind_some, Option.getD_some]
          cases xs with
          | nil => exact absurd rfl a2
          | cons x xs =>
            have := prog_fin a1 r2
            simp only [cond_false, Option.bind_some] at this
            rw [this]
            by_cases h : sp r2 = []
            · rw [if_pos h, if_pos h]
            · rw [if_neg h, if_neg h]
  | false =>
    rw [if_neg Bool.false_ne_true, cond_false]
    have e1 : Lib.trimPrefix (sp s) [109, 97, 120] = sp s := by unfold Lib.trimPrefix; rw [hp, if_neg Bool.false_ne_true]
    rw [e1]
    obtain ⟨x, hx, hx'⟩ := m55_eq (t := sp s) (by omega) 0 0 imNil
    rw [hx]
    simp only [Option.bind_some]
    cases hq : partP (sp s) with
    | none =>
      rw [hq] at hx'
      have hb : x.2.1 = true := hx'
      rw [hb]; rfl
    | some q =>
      obtain ⟨L, r⟩ := q
      rw [hq] at hx'
      dsimp only at hx' ⊢
      subst hx'
      dsimp only
      refine Eq.trans (prog_fin (x := L) (xs := []) (fun y hy => by simp at hy; subst hy; exact part_ok hq) r) ?_
      by_cases h : sp r = []
      · rw [if_pos h, if_pos h]
      · rw [if_neg h, if_neg h]

theorem pre_max (t : Bs) : Lib.hasPrefix t [109, 97, 120] = (t.take 3 == ([109, 97, 120] : Bs)) := by
  unfold Lib.hasPrefix
  rcases t with _ | ⟨a, _ | ⟨b, _ | ⟨c, t⟩⟩⟩
  · rfl
  · show ((109 == a) && List.isPrefixOf [97, 120] []) = _
    simp [List.isPrefixOf]
  · show ((109 == a) && ((97 == b) && List.isPrefixOf [120] [])) = _
    simp [List.isPrefixOf]
  · show ((109 == a) && ((97 == b) && ((120 == c) && List.isPrefixOf [] t))) = ([a, b, c] == [109, 97, 120])
    rw [List.isPrefixOf]
    have e : ∀ x y : UInt8, (x == y) = (y == x) := fun x y => by rw [Bool.eq_iff_iff, beq_iff_eq, beq_iff_eq]; exact ⟨Eq.symm, Eq.symm⟩
    rw [e 109 a, e 97 b, e 120 c]
    show _ = ((a == 109) && ((b == 97) && ((c == 120) && ([] == ([] : Bs)))))
    rfl
theorem drop_nil_iff {s : Bs} {k : Nat} (hk : k ≤ s.length) : decide ((k : Int) < s.length) = !(decide (s.drop k = [])) := by
  rw [Bool.eq_iff_iff, decide_eq_true_eq, Bool.not_eq_true', decide_eq_false_iff_not, List.drop_eq_nil_iff]
  omega
/-- the end of the reference's Parse -/
theorem ref_fin {s : Bs} (bad : Bool) (L : Lvl) (e : Int) {k : Nat} (hk : k ≤ s.length) :
    (Option.bind (cond bad (some true) (some (decide ((k : Int) < s.length)))) fun v5 => cond v5 (some ((⟨0, []⟩ : Lvl), (4 : Int))) (cond (e != 0) (some ((⟨0, []⟩ : Lvl), e)) (some ((⟨L.c, L.vs⟩ : Lvl), (0 : Int))))) =
    some (if bad = false ∧ s.drop k = [] then (if e = 0 then (L, 0) else (⟨0, []⟩, e)) else (⟨0, []⟩, 4)) := by
  rw [drop_nil_iff hk]
  cases bad with
  | true => rfl
  | false =>
    by_cases h : s.drop k = []
    · rw [decide_eq_true h, if_pos ⟨rfl, h⟩]
      by_cases he : e = 0
      · subst he; rfl
      · rw [if_neg he, show (e != 0) = true by simp [he]]; rfl
    · rw [decide_eq_false h, if_neg (fun q => h q.2)]; rfl
theorem firstE_cons (e : Int) (x : Lvl × Int) (xs : List (Lvl × Int)) : firstE e (x :: xs) = firstE (if e = 0 then x.2 else e) xs := rfl

theorem m27_eq {s : Bs} (hs : s.length ≤ 600) : m27 s = some (resP s) := by
  have hs' : s.length ≤ 100000 := by omega
  unfold m27 resP parseP
  rw [decide_eq_false (by omega : ¬ (65536 : Int) < s.length), cond_false]
  obtain ⟨k1, h1, hk1, hd1⟩ := m57_eq hs' (Nat.zero_le _) false 0
  rw [List.drop_zero] at hd1
  rw [show ((0 : Nat) : Int) = 0 from rfl] at h1
  rw [h1, Option.bind_some, w64_id (n := (k1 : Int) + 3) (by omega) (by omega)]
  have hmax : (cond (decide ((k1 : Int) + 3 ≤ s.length)) (guardO (cond (decide (0 ≤ (k1 : Int))) (cond (Nat.ble (k1 : Int).toNat ((k1 : Int) + 3).toNat) (cond (decide (0 ≤ (k1 : Int) + 3)) (Nat.ble ((k1 : Int) + 3).toNat s.length) false) false) false) (some (((s.take ((k1 : Int) + 3).toNat).drop (k1 : Int).toNat) == ([109, 97, 120] : Bs)))) (some false)) = some (Lib.hasPrefix (sp s) [109, 97, 120]) := by
    rw [pre_max, ← hd1]
    have e3 : ((k1 : Int) + 3).toNat = k1 + 3 := by omega
    by_cases h : (k1 : Int) + 3 ≤ s.length
    · rw [decide_eq_true h, cond_true, decide_eq_true (by omega), decide_eq_true (by omega), e3, Int.toNat_natCast, ble_t (by omega), ble_t (by omega)]
      show some _ = some _
      rw [List.drop_take]
      congr 2
      rw [show k1 + 3 - k1 = 3 by omega]
    · rw [decide_eq_false h, cond_false]
      congr 1
      symm
      cases hq : ((s.drop k1).take 3 == ([109, 97, 120] : Bs)) with
      | false => rfl
      | true =>
        have := congrArg List.length (eq_of_beq hq)
        rw [List.length_take, List.length_drop] at this
        simp at this
        omega
  rw [hmax, Option.bind_some]
  cases hp : Lib.hasPrefix (sp s) [109, 97, 120] with
  | true =>
    rw [if_pos rfl, cond_true]
    have hlen : k1 + 3 ≤ s.length := by
      rw [pre_max, ← hd1] at hp
      have := congrArg List.length (eq_of_beq hp)
      rw [List.length_take, List.length_drop] at this
      simp at this
      omega
    obtain ⟨k2, h2, hk2, hd2⟩ := m57_eq hs' hlen false 0
    rw [← List.drop_drop, hd1] at hd2
    have h2' : m57f8 s ((k1 : Int) + 3) false 0 = some (k2 : Int) := h2
    rw [h2', Option.bind_some]
    obtain ⟨h3, hr3⟩ := m58_eq hs' hk2 40 (ci := 40) rfl false 0
    rw [h3, Option.bind_some, hd2]
    cases h40 : tkc 40 (sp ((sp s).drop 3)) with
    | none =>
      simp only [Option.isSome_none, cond_false, Nat.add_zero, Bool.not_false]
      obtain ⟨L, k3, b3, e3, a1, a2, a3, a4, a5⟩ := m59_eq hs' hk2 true 0
      have hb := a4 rfl
      subst hb
      rw [a1, Option.bind_some]
      dsimp only
      have hl : loopN (m27_l0 s) FUEL ((k3 : Int), true, e3, L.c, L.vs) = some ((k3 : Int), true, e3, L.c, L.vs) := by
        unfold FUEL; rw [loopN]; rfl
      rw [hl, Option.bind_some]
      dsimp only
      rw [cond_true, Option.bind_some]
      dsimp only
      obtain ⟨k4, h4, hk4, -⟩ := m57_eq hs' a2 true e3
      rw [h4]
      rfl
    | some t =>
      obtain ⟨hk3, hd3⟩ := hr3 t (by rw [hd2]; exact h40)
      simp only [Option.isSome_some, cond_true, Bool.not_true]
      obtain ⟨L, k4, b4, e4, a1, a2, a3, a4, a5⟩ := m59_eq hs' hk3 false 0
      have a6 := a5 rfl
      rw [hd3] at a6
      rw [a1, Option.bind_some]
      dsimp only
      have lt : t.length ≤ s.length := by rw [← hd3, List.length_drop]; omega
      obtain ⟨n, hn⟩ : ∃ n, s.length = n + 1 := ⟨s.length - 1, by omega⟩
      rw [rest_tail]
      cases hq : partP (sp t) with
      | none =>
        rw [hq] at a6
        have hb : b4 = true := a6
        subst hb
        have hl : loopN (m27_l0 s) FUEL ((k4 : Int), true, e4, L.c, L.vs) = some ((k4 : Int), true, e4, L.c, L.vs) := by
          unfold FUEL; rw [loopN]; rfl
        rw [hl, Option.bind_some]
        dsimp only
        rw [cond_true, Option.bind_some]
        dsimp only
        obtain ⟨k5, h5, hk5, -⟩ := m57_eq hs' a2 true e4
        rw [h5]
        rfl
      | some q =>
        obtain ⟨x, r⟩ := q
        rw [hq] at a6
        obtain ⟨c1, c2, c3, c4⟩ := a6
        subst c1 c2 c3
        rw [if_pos rfl]
        dsimp only
        obtain ⟨o, ho, ho'⟩ := ref_loop hs' n k4 x.2 x.1 FUEL a2 (by
          have l1 := part_len hq
          have l2 := sp_len t
          have l3 := sp_len r
          have l4 : s.length - k4 = (sp r).length := by rw [← c4, List.length_drop]
          have l5 : t.length = s.length - (k2 + 1) := by rw [← hd3, List.length_drop]
          omega) (by unfold FUEL; omega) a3.wf
        rw [ho, Option.bind_some]
        rw [c4, ← hn] at ho'
        cases ht : tailP s.length (sp r) with
        | none =>
          rw [ht] at ho'
          obtain ⟨hb, k5, hk5, hk5'⟩ := ho'
          rw [hb, cond_true, Option.bind_some, hk5]
          dsimp only
          obtain ⟨k6, h6, hk6, -⟩ := m57_eq hs' hk5' true o.2.2.1
          rw [h6]
          rfl
        | some q =>
          obtain ⟨xs, r3⟩ := q
          rw [ht] at ho'
          obtain ⟨k5, hk5, hd5, hoe⟩ := ho'
          subst hoe
          dsimp only
          obtain ⟨h6, hr6⟩ := m58_eq hs' hk5 41 (ci := 41) rfl false (firstE x.2 xs)
          rw [cond_false, h6, hd5]
          cases h41 : tkc 41 r3 with
          | none =>
            simp only [Option.isSome_none, cond_false, Nat.add_zero, Option.bind_some, Bool.not_false]
            obtain ⟨k6, h7, hk6, -⟩ := m57_eq hs' hk5 true (firstE x.2 xs)
            rw [h7]
            rfl
          | some r4 =>
            obtain ⟨hk7, hd7⟩ := hr6 r4 (by rw [hd5]; exact h41)
            simp only [Option.isSome_some, cond_true, Option.bind_some, Bool.not_true]
            obtain ⟨k8, h8, hk8, hd8⟩ := m57_eq hs' hk7 false (firstE x.2 xs)
            rw [h8, Option.bind_some]
            try dsimp only
            refine Eq.trans (ref_fin false (joinsL x.1 xs) (firstE x.2 xs) hk8) ?_
            rw [hd8, hd7]
            by_cases hz : sp r4 = []
            · rw [if_pos ⟨rfl, hz⟩, if_pos hz]; rfl
            · rw [if_neg (fun h => hz h.2), if_neg hz]
  | false =>
    rw [if_neg Bool.false_ne_true, cond_false]
    obtain ⟨L, k4, b4, e4, a1, a2, a3, a4, a5⟩ := m59_eq hs' hk1 false 0
    have a6 := a5 rfl
    rw [hd1, sp_sp] at a6
    rw [a1]
    simp only [Option.bind_some]
    cases hq : partP (sp s) with
    | none =>
      rw [hq] at a6
      have hb : b4 = true := a6
      subst hb
      rfl
    | some q =>
      obtain ⟨x, r⟩ := q
      rw [hq] at a6
      obtain ⟨c1, c2, c3, c4⟩ := a6
      subst c1 c2
      rw [if_pos rfl] at c3
      subst c3
      dsimp only
      refine Eq.trans (ref_fin false x.1 x.2 a2) ?_
      rw [c4]
      by_cases hz : sp r = []
      · rw [if_pos ⟨rfl, hz⟩, if_pos hz]; rfl
      · rw [if_neg (fun h => hz h.2), if_neg hz]

theorem resP_len {s : Bs} (hs : s.length ≤ 600) : (resP s).1.vs.length ≤ 900000 := by
  unfold resP
  cases hp : parseP s with
  | none => exact Nat.zero_le _
  | some l =>
    cases l with
    | nil => exact Nat.zero_le _
    | cons x xs =>
      dsimp only
      split
      · have hx : ∀ y ∈ x :: xs, PartOK y := by
          unfold parseP at hp
          split at hp
          · split at hp
            · cases hp
            · split at hp
              · cases hp
              · rename_i hr
                split at hp
                · cases hp
                · split at hp
                  · cases hp; exact (rest_ok _ _ _ _ hr).1
                  · cases hp
          · split at hp
            · cases hp
            · rename_i hq
              split at hp
              · cases hp
                intro y hy
                simp at hy; subst hy; exact part_ok hq
              · cases hp
        exact Nat.le_trans (joinsL_wf xs x.1 (hx x List.mem_cons_self).wf fun y hy => hx y (List.mem_cons_of_mem _ hy)).len (by decide)
      · exact Nat.zero_le _
theorem m5_true (a0 : Bs) : m5 a0 = some true := by
  unfold m5
  by_cases h : (600 : Int) < a0.length
  · rw [decide_eq_true h]; rfl
  · rw [decide_eq_false h, cond_false, m26_eq (by omega), m27_eq (by omega)]
    simp only [Option.bind_some]
    rw [m21_eq (resP_len (by omega)), sameB_refl]
    simp
end Go.Proofs.YtcapifnaceegmaaGreatDoor
