/- Plain laws of Parse: the reference's reading. -/
import Derived.Test.YtcapifnaceegmaaGreatDoorPl5b
namespace Go.Proofs.YtcapifnaceegmaaGreatDoor
open Go.RowKit
set_option linter.unusedSimpArgs false
set_option linter.unusedVariables false

theorem drop_get {s : Bs} {k j : Nat} : (s.drop k)[j]? = s[k + j]? := by rw [List.getElem?_drop]
theorem m57_eq {s : Bs} (hs : s.length ≤ 100000) {k : Nat} (hk : k ≤ s.length) (bad : Bool) (e : Int) : ∃ k' : Nat, m57f8 s k bad e = some (k' : Int) ∧ k' ≤ s.length ∧ s.drop k' = sp (s.drop k) := by
  have hle : ((s.drop k).takeWhile (· == (32 : UInt8))).length ≤ (s.drop k).length := tw_le _
  rw [List.length_drop] at hle
  refine ⟨k + ((s.drop k).takeWhile (· == (32 : UInt8))).length, ?_, by omega, ?_⟩
  · unfold m57f8
    have key := loop_spec (step := m57f8_l0 s) (fun i => ∃ j : Nat, i = ((k + j : Nat) : Int) ∧ j ≤ ((s.drop k).takeWhile (· == (32 : UInt8))).length) (fun i => s.length - i.toNat) (fun _ => ((k + ((s.drop k).takeWhile (· == (32 : UInt8))).length : Nat) : Int)) (by
      rintro i ⟨j, rfl, hj⟩
      unfold m57f8_l0
      by_cases hlt : j < ((s.drop k).takeWhile (· == (32 : UInt8))).length
      · obtain ⟨b, hb, hd⟩ := tw_get _ j hlt
        rw [drop_get] at hb
        have hd' : b = 32 := eq_of_beq hd
        subst hd'
        right
        refine ⟨((k + (j + 1) : Nat) : Int), ?_, ⟨j + 1, rfl, hlt⟩, by simp only [Int.toNat_natCast]; omega, rfl⟩
        rw [decide_eq_true (by omega : ((k + j : Nat) : Int) < s.length), cond_true, idx_lt hb]
        simp only [Option.bind_some]
        rw [w64_id (by omega) (by omega)]
        rfl
      · have hj' : j = ((s.drop k).takeWhile (· == (32 : UInt8))).length := by omega
        subst hj'
        left
        cases hb : s[k + ((s.drop k).takeWhile (· == (32 : UInt8))).length]? with
        | none =>
          have := List.getElem?_eq_none_iff.1 hb
          rw [decide_eq_false (by omega)]
          rfl
        | some b =>
          have hd := tw_end (p := (· == (32 : UInt8))) (s.drop k) b (by rw [drop_get]; exact hb)
          have := (List.getElem?_eq_some_iff.1 hb).1
          rw [decide_eq_true (by omega), cond_true, idx_lt hb]
          simp only [Option.bind_some]
          have : ((b.toNat : Int) == 32) = false := by
            have h2 : b ≠ 32 := by simpa using hd
            have : b.toNat ≠ 32 := fun e => h2 (UInt8.toNat_inj.1 e)
            simpa using fun e : (b.toNat : Int) = 32 => this (by omega)
          rw [this]; rfl) FUEL (k : Int) ⟨0, rfl, Nat.zero_le _⟩ (by simp only [Int.toNat_natCast]; unfold FUEL; omega)
    rw [key]; rfl
  · rw [← List.drop_drop, tw_drop]; rfl

theorem m58_eq {s : Bs} (hs : s.length ≤ 100000) {k : Nat} (hk : k ≤ s.length) (c : UInt8) {ci : Int} (hc : ci = (c.toNat : Int)) (bad : Bool) (e : Int) : m58f9 ci s k bad e = some ((tkc c (s.drop k)).isSome, ((k + (cond (tkc c (s.drop k)).isSome 1 0) : Nat) : Int)) ∧ ∀ r, tkc c (s.drop k) = some r → k + 1 ≤ s.length ∧ s.drop (k + 1) = r := by
  subst hc
  constructor
  · unfold m58f9
    cases hb : s[k]? with
    | none =>
      have := List.getElem?_eq_none_iff.1 hb
      rw [decide_eq_false (by omega), List.drop_eq_nil_of_le this]
      rfl
    | some b =>
      have hlt := (List.getElem?_eq_some_iff.1 hb).1
      rw [decide_eq_true (by omega), cond_true, idx_lt hb]
      have hd : s.drop k = b :: s.drop (k + 1) := by
        rw [List.drop_eq_getElem_cons hlt]
        congr 1
        exact (List.getElem?_eq_some_iff.1 hb).2
      rw [hd]
      unfold tkc
      dsimp only
      simp only [Option.bind_some]
      by_cases h : b = c
      · subst h
        rw [if_pos rfl, show ((b.toNat : Int) == (b.toNat : Int)) = true from beq_self_eq_true _]
        simp only [cond_true]
        rw [w64_id (by omega) (by omega)]; rfl
      · have : ((b.toNat : Int) == (c.toNat : Int)) = false := by
          have : b.toNat ≠ c.toNat := fun e => h (UInt8.toNat_inj.1 e)
          simpa using fun e : (b.toNat : Int) = c.toNat => this (by omega)
        rw [if_neg h, this]; rfl
  · intro r hr
    have h1 := tkc_some hr
    have h2 := congrArg List.length h1
    rw [List.length_drop, List.length_cons] at h2
    refine ⟨by omega, ?_⟩
    rw [← List.drop_drop, h1]; rfl

theorem numV_snoc (ds : Bs) (b : UInt8) : numV (ds ++ [b]) = 10 * numV ds + (b.toNat - 48) := by unfold numV; rw [List.foldl_append]; rfl
theorem m84_eq {s : Bs} (hs : s.length ≤ 100000) {k : Nat} (hk : k ≤ s.length) (bad : Bool) (e : Int) : ∃ (n : Nat) (k' : Nat) (bad' : Bool), m84f11 s k bad e = some ((n : Int), (k' : Int), bad') ∧ k' ≤ s.length ∧ n < 100000000 ∧ (bad = true → bad' = true) ∧ match numP (s.drop k) with
    | some (v, r) => n = v ∧ bad' = bad ∧ s.drop k' = r
    | none => bad' = true := by
  have hle : (dig (s.drop k)).length ≤ (s.drop k).length := tw_le _
  rw [List.length_drop] at hle
  generalize hd : dig (s.drop k) = d at hle
  have hdd : ∀ b ∈ d, isD b = true := by rw [← hd]; exact dig_isD
  have hget : ∀ j, j < d.length → ∃ b, s[k + j]? = some b ∧ isD b = true ∧ d[j]? = some b := fun j hj => by
    obtain ⟨b, hb, hp⟩ := tw_get (p := isD) (s.drop k) j (by show j < (dig (s.drop k)).length; rw [hd]; exact hj)
    refine ⟨b, by rw [← drop_get]; exact hb, hp, ?_⟩
    have ht := tw_take (p := isD) (s.drop k)
    have : d = (s.drop k).take d.length := by
      rw [← hd]; exact ht.symm
    have h9 : ((s.drop k).take d.length)[j]? = some b := by rw [List.getElem?_take, if_pos hj]; exact hb
    exact (congrArg (fun l : Bs => l[j]?) this).trans h9
  have hend : ∀ b, s[k + d.length]? = some b → isD b = false := fun b hb => by
    have := tw_end (p := isD) (s.drop k) b
    rw [drop_get] at this
    exact this (by show s[k + (dig (s.drop k)).length]? = _; rw [hd]; exact hb)
  have small : ∀ j, j ≤ 7 → numV (d.take j) < 10000000 := fun j hj => by
    have := numV_lt (d.take j) 0 (fun b hb => hdd b (List.mem_of_mem_take hb))
    have h2 : (d.take j).length ≤ 7 := by rw [List.length_take]; omega
    have h3 : 10 ^ (d.take j).length ≤ 10 ^ 7 := Nat.pow_le_pow_right (by decide) h2
    have h7 : (10 : Nat) ^ 7 = 10000000 := by decide
    unfold numV
    omega
  have key := loop_spec (step := m84f11_l0 s k) (fun p => ∃ j : Nat, p = ((numV (d.take j) : Int), ((k + j : Nat) : Int)) ∧ j ≤ min d.length 7) (fun p => s.length - p.2.toNat) (fun _ => ((numV (d.take (min d.length 7)) : Int), ((k + min d.length 7 : Nat) : Int))) (by
    rintro p ⟨j, rfl, hj⟩
    unfold m84f11_l0
    dsimp only
    by_cases hlt : j < d.length
    · obtain ⟨b, hb, hp, hdj⟩ := hget j hlt
      have hl := (List.getElem?_eq_some_iff.1 hb).1
      have hp' := hp
      rw [isD_int] at hp
      simp only [Bool.and_eq_true] at hp
      rw [decide_eq_true (by omega : ((k + j : Nat) : Int) < s.length), cond_true, idx_lt hb]
      simp only [Option.bind_some, hp.1, hp.2, cond_true]
      rw [w64_id (n := ((k + j : Nat) : Int) - k) (by omega) (by omega)]
      by_cases h6 : j ≤ 6
      · rw [decide_eq_true (by omega), cond_true]
        right
        have hs1 := small j (by omega)
        have hb1 : 48 ≤ b.toNat ∧ b.toNat ≤ 57 := by simpa [isD] using hp'
        refine ⟨((numV (d.take (j + 1)) : Int), ((k + (j + 1) : Nat) : Int)), ?_, ⟨j + 1, rfl, by omega⟩, by simp only [Int.toNat_natCast]; omega, trivial⟩
        rw [List.take_add_one, hdj]
        show _ = some (LO.next (((numV (d.take j ++ [b]) : Nat) : Int), _))
        rw [numV_snoc, w64_id (n := 10 * (numV (d.take j) : Int)) (by omega) (by omega), IntWalk.u8_in _ (by omega), w64_id (n := (b.toNat : Int) - 48) (by omega) (by omega), w64_id (n := 10 * (numV (d.take j) : Int) + ((b.toNat : Int) - 48)) (by omega) (by omega), w64_id (n := ((k + j : Nat) : Int) + 1) (by omega) (by omega)]
        congr 3
        omega
      · rw [decide_eq_false (by omega), cond_false]
        left
        have : j = min d.length 7 := by omega
        rw [← this]
    · have hj' : j = d.length := by omega
      subst hj'
      left
      rw [show min d.length 7 = d.length by omega]
      cases hb : s[k + d.length]? with
      | none =>
        have := List.getElem?_eq_none_iff.1 hb
        rw [decide_eq_false (by omega)]
        rfl
      | some b =>
        have hn := hend b hb
        have := (List.getElem?_eq_some_iff.1 hb).1
        rw [decide_eq_true (by omega), cond_true, idx_lt hb]
        rw [isD_int] at hn
        simp only [Option.bind_some]
        cases h1 : decide (48 ≤ (b.toNat : Int)) with
        | false => rfl
        | true =>
          rw [h1, Bool.true_and] at hn
          rw [hn]; rfl) FUEL (0, (k : Int)) ⟨0, rfl, Nat.zero_le _⟩ (by simp only [Int.toNat_natCast]; unfold FUEL; omega)
  unfold m84f11
  rw [key, Option.bind_some]
  dsimp only
  rw [w64_id (n := ((k + min d.length 7 : Nat) : Int) - k) (by omega) (by omega)]
  have hsm := small (min d.length 7) (by omega)
  unfold numP badD
  rw [hd]
  by_cases h0 : d.length = 0
  · rw [show (((k + min d.length 7 : Nat) : Int) == (k : Int)) = true by simp; omega, cond_true, Option.bind_some, cond_true]
    refine ⟨_, _, _, rfl, by omega, by omega, fun _ => rfl, ?_⟩
    rw [if_pos (by simp [h0])]
  · rw [show (((k + min d.length 7 : Nat) : Int) == (k : Int)) = false by simp; omega, cond_false]
    by_cases h6 : 6 < d.length
    · rw [decide_eq_true (by omega), cond_true, Option.bind_some, cond_true]
      refine ⟨_, _, _, rfl, by omega, by omega, fun _ => rfl, ?_⟩
      rw [if_pos (by simp [h6])]
    · rw [decide_eq_false (by omega), cond_false]
      obtain ⟨b, hb, hp, hdj⟩ := hget 0 (by omega)
      have hh : d.head? = some b := by rw [← hdj]; cases d <;> rfl
      have hmin : min d.length 7 = d.length := by omega
      have hsm2 : numV d < 10000000 := by rw [hmin, List.take_length] at hsm; exact hsm
      rw [Nat.add_zero] at hb
      rw [idx_lt hb, hmin, List.take_length, hh]
      simp only [Option.bind_some]
      by_cases hb48 : b = 48
      · subst hb48
        rw [show (((48 : UInt8).toNat : Int) == 48) = true from rfl, cond_true, Option.bind_some]
        by_cases h1 : 1 < d.length
        · rw [decide_eq_true (by omega), cond_true]
          refine ⟨_, _, _, rfl, by omega, by omega, fun _ => rfl, ?_⟩
          rw [if_pos (by simp [h1])]
        · rw [decide_eq_false (by omega), cond_false]
          refine ⟨_, _, _, rfl, by omega, by omega, fun h => h, ?_⟩
          rw [if_neg (by simp [h0, h6, h1])]
          exact ⟨rfl, rfl, by rw [List.drop_drop]⟩
      · have e1 : ((b.toNat : Int) == 48) = false := by
          have : b.toNat ≠ 48 := fun e => hb48 (UInt8.toNat_inj.1 e)
          simpa using fun e : (b.toNat : Int) = 48 => this (by omega)
        rw [e1, cond_false, Option.bind_some, cond_false]
        refine ⟨_, _, _, rfl, by omega, by omega, fun h => h, ?_⟩
        rw [if_neg (by simp [h0, h6, hb48])]
        exact ⟨rfl, rfl, by rw [List.drop_drop]⟩

theorem m85_eq (L : Lvl) (e' : Int) (s : Bs) (k : Int) (bad : Bool) (e : Int) : m85f12 L e' s k bad e = some (if e = 0 ∧ bad = false then e' else e) := by
  unfold m85f12
  by_cases he : e = 0
  · subst he
    cases bad <;> rfl
  · rw [show (e == 0) = false by simpa using he, if_neg (fun h => he h.1)]; rfl

/-- what the reference makes of a part -/
theorem m59_eq {s : Bs} (hs : s.length ≤ 100000) {k : Nat} (hk : k ≤ s.length) (bad : Bool) (e : Int) : ∃ (L : Lvl) (k' : Nat) (bad' : Bool) (e' : Int), m59f10 s k bad e = some (L.c, L.vs, (k' : Int), bad', e') ∧ k' ≤ s.length ∧ PartOK (L, 0) ∧ (bad = true → bad' = true) ∧ (bad = false → match partP (sp (s.drop k)) with
    | some (x, r) => L = x.1 ∧ bad' = false ∧ e' = (if e = 0 then x.2 else e) ∧ s.drop k' = sp r
    | none => bad' = true) := by
  -- a variable, behind its sign
  have var : ∀ (k3 : Nat) (neg : Bool), k3 ≤ s.length → ∃ (L : Lvl) (k' : Nat) (bad' : Bool) (e' : Int), (Option.bind (m84f11 s k3 bad e) fun x9 => Option.bind (m57f8 s x9.2.1 x9.2.2 e) fun x10 => Option.bind (m58f9 43 s x10 x9.2.2 e) fun x11 =>
      Option.bind (cond x11.1 (Option.bind (m57f8 s x11.2 x9.2.2 e) fun x14 => Option.bind (m84f11 s x14 x9.2.2 e) fun x15 => Option.bind (m57f8 s x15.2.1 x15.2.2 e) fun x16 => some (x15.1, x16, x15.2.2)) (some (0, x11.2, x9.2.2))) fun v12 =>
      Option.bind (cond neg (some (w64 (-1 - x9.1))) (some x9.1)) fun v13 => Option.bind (m18 v13 v12.1) fun x14 => Option.bind (m85f12 x14.1 x14.2 s v12.2.1 v12.2.2 e) fun x15 => some (x14.1.c, x14.1.vs, v12.2.1, v12.2.2, x15)) = some (L.c, L.vs, (k' : Int), bad', e') ∧ k' ≤ s.length ∧ PartOK (L, 0) ∧ (bad = true → bad' = true) ∧ (bad = false → match goP neg (s.drop k3) with
      | some (x, r) => L = x.1 ∧ bad' = false ∧ e' = (if e = 0 then x.2 else e) ∧ s.drop k' = sp r
      | none => bad' = true) := by
    intro k3 neg hk3
    obtain ⟨n, k4, b4, h4, hk4, hn4, hb4, hm4⟩ := m84_eq hs hk3 bad e
    obtain ⟨k5, h5, hk5, hd5⟩ := m57_eq hs hk4 b4 e
    obtain ⟨h6, hr6⟩ := m58_eq hs hk5 43 (ci := 43) rfl b4 e
    rw [h4, Option.bind_some]
    dsimp only
    rw [h5, Option.bind_some, h6, Option.bind_some]
    have e7 : (cond neg (some (w64 (-1 - (n : Int)))) (some (n : Int)) : Option Int) = some (if neg then -1 - (n : Int) else n) := by
      cases neg with
      | false => rfl
      | true => rw [if_pos rfl, cond_true, w64_id (by omega) (by omega)]
    have ok : ∀ i p : Int, PartOK ((varR i p).1, 0) := fun i p => ⟨(varR_ok i p).c, (varR_ok i p).v, (varR_ok i p).wf, (varR_ok i p).tr⟩
    unfold goP
    cases h43 : tkc 43 (s.drop k5) with
    | none =>
      simp only [Option.isSome_none, cond_false, Option.bind_some, Nat.add_zero]
      rw [e7, Option.bind_some, (m17_R _ _).2, Option.bind_some, m85_eq, Option.bind_some]
      refine ⟨_, k5, b4, _, rfl, hk5, ok _ _, hb4, fun hf => ?_⟩
      subst hf
      cases hq : numP (s.drop k3) with
      | none => rw [hq] at hm4; exact hm4
      | some q =>
        obtain ⟨v, r⟩ := q
        rw [hq] at hm4
        obtain ⟨m1, m2, m3⟩ := hm4
        subst m1 m2
        dsimp only
        rw [hd5, m3] at h43
        rw [h43]
        dsimp only
        refine ⟨rfl, rfl, ?_, by rw [hd5, m3, sp_sp]⟩
        by_cases he : e = 0
        · rw [if_pos ⟨he, rfl⟩, if_pos he]
        · rw [if_neg (fun h => he h.1), if_neg he]
    | some r2 =>
      obtain ⟨hk6, hd6⟩ := hr6 r2 h43
      simp only [Option.isSome_some, cond_true]
      obtain ⟨k7, h7, hk7, hd7⟩ := m57_eq hs hk6 b4 e
      obtain ⟨p, k8, b8, h8, hk8, hn8, hb8, hm8⟩ := m84_eq hs hk7 b4 e
      obtain ⟨k9, h9, hk9, hd9⟩ := m57_eq hs hk8 b8 e
      rw [h7, Option.bind_some, h8, Option.bind_some]
      dsimp only
      rw [h9]
      simp only [Option.bind_some]
      rw [e7, Option.bind_some, (m17_R _ _).2, Option.bind_some, m85_eq, Option.bind_some]
      refine ⟨_, k9, b8, _, rfl, hk9, ok _ _, fun h => hb8 (hb4 h), fun hf => ?_⟩
      subst hf
      cases hq : numP (s.drop k3) with
      | none =>
        rw [hq] at hm4
        exact hb8 hm4
      | some q =>
        obtain ⟨v, r⟩ := q
        rw [hq] at hm4
        obtain ⟨m1, m2, m3⟩ := hm4
        subst m1 m2
        dsimp only
        rw [hd5, m3] at h43
        rw [h43]
        dsimp only
        rw [hd7, hd6] at hm8
        cases hq8 : numP (sp r2) with
        | none => rw [hq8] at hm8; exact hm8
        | some q8 =>
          obtain ⟨v8, r8⟩ := q8
          rw [hq8] at hm8
          obtain ⟨m4, m5, m6⟩ := hm8
          subst m4 m5
          dsimp only
          refine ⟨rfl, rfl, ?_, by rw [hd9, m6]⟩
          by_cases he : e = 0
          · rw [if_pos ⟨he, rfl⟩, if_pos he]
          · rw [if_neg (fun h => he h.1), if_neg he]
  obtain ⟨k1, h1, hk1, hd1⟩ := m57_eq hs hk bad e
  obtain ⟨h2, hr2⟩ := m58_eq hs hk1 63 (ci := 63) rfl bad e
  unfold m59f10
  rw [h1, Option.bind_some, h2, Option.bind_some]
  rw [← hd1]
  cases h63 : tkc 63 (s.drop k1) with
  | some t' =>
    obtain ⟨hk2, hd2⟩ := hr2 t' h63
    have h117 : tkc 117 (s.drop k1) = none := by rw [tkc_some h63]; rfl
    simp only [Option.isSome_some, Bool.not_true, cond_false, Option.bind_some, cond_true]
    obtain ⟨L, k', bad', e', a1, a2, a3, a4, a5⟩ := var (k1 + 1) true hk2
    simp only [cond_true] at a1
    refine ⟨L, k', bad', e', a1, a2, a3, a4, fun hf => ?_⟩
    have a6 := a5 hf
    unfold partP
    rw [h117, h63]
    dsimp only
    rw [hd2] at a6
    exact a6
  | none =>
    obtain ⟨h3, hr3⟩ := m58_eq hs hk1 117 (ci := 117) rfl bad e
    simp only [Option.isSome_none, Bool.not_false, cond_true, cond_false, Nat.add_zero]
    rw [h3, Option.bind_some]
    cases h117 : tkc 117 (s.drop k1) with
    | some t' =>
      obtain ⟨hk2, hd2⟩ := hr3 t' h117
      simp only [Option.isSome_some, Bool.not_true, cond_false, Option.bind_some, cond_true]
      obtain ⟨L, k', bad', e', a1, a2, a3, a4, a5⟩ := var (k1 + 1) false hk2
      simp only [cond_false] at a1
      refine ⟨L, k', bad', e', a1, a2, a3, a4, fun hf => ?_⟩
      have a6 := a5 hf
      unfold partP
      rw [h117]
      dsimp only
      rw [hd2] at a6
      exact a6
    | none =>
      simp only [Option.isSome_none, Bool.not_false, cond_true, cond_false, Nat.add_zero, Option.bind_some]
      obtain ⟨n, k4, b4, h4, hk4, hn4, hb4, hm4⟩ := m84_eq hs hk1 bad e
      obtain ⟨k5, h5, hk5, hd5⟩ := m57_eq hs hk4 b4 e
      rw [h4, Option.bind_some]
      dsimp only
      rw [h5, Option.bind_some, (m15_R _).2, Option.bind_some, m85_eq, Option.bind_some]
      refine ⟨_, k5, b4, _, rfl, hk5, ⟨(ofR_ok _).c, (ofR_ok _).v, (ofR_ok _).wf, (ofR_ok _).tr⟩, hb4, fun hf => ?_⟩
      subst hf
      unfold partP
      rw [h117, h63]
      dsimp only
      cases hq : numP (s.drop k1) with
      | none => rw [hq] at hm4; exact hm4
      | some q =>
        obtain ⟨v, r⟩ := q
        rw [hq] at hm4
        obtain ⟨m1, m2, m3⟩ := hm4
        subst m1 m2
        dsimp only
        refine ⟨rfl, rfl, ?_, by rw [hd5, m3]⟩
        by_cases he : e = 0
        · rw [if_pos ⟨he, rfl⟩, if_pos he]
        · rw [if_neg (fun h => he h.1), if_neg he]
end Go.Proofs.YtcapifnaceegmaaGreatDoor
