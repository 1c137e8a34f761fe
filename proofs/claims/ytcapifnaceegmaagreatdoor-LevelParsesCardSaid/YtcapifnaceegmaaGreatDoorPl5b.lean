/- Plain laws of Parse: the program's reading. -/
import Derived.Test.YtcapifnaceegmaaGreatDoorPl5
namespace Go.Proofs.YtcapifnaceegmaaGreatDoor
open Go.RowKit
set_option linter.unusedSimpArgs false
set_option linter.unusedVariables false

theorem m17_R (i n : Int) : m17 i n = some (varR i n) ∧ m18 i n = some (varR i n) := by
  unfold m17 m18 varR
  have e : decide (8 ≤ i) = decide (7 < i) := by rw [Bool.eq_iff_iff, decide_eq_true_eq, decide_eq_true_eq]; omega
  rw [e]
  by_cases h1 : i < -65536
  · simp [h1]
  · by_cases h2 : 7 < i
    · simp [h1, h2]
    · by_cases h3 : n < 0
      · simp [h1, h2, h3]
      · by_cases h4 : 100 < n
        · simp [h1, h2, h3, h4]
        · simp [h1, h2, h3, h4]
theorem m15_R (n : Int) : m15 n = some (ofR n) ∧ m16 n = some (ofR n) := by
  unfold m15 m16 ofR
  by_cases h3 : n < 0
  · simp [h3]
  · by_cases h4 : 100 < n
    · simp [h3, h4]
    · simp [h3, h4]
/-- what a part may be -/
structure PartOK (x : Lvl × Int) : Prop where
  c : 0 ≤ x.1.c ∧ x.1.c ≤ 100
  v : ∀ y ∈ x.1.vs, okV y
  wf : WF x.1.vs
  tr : trimL x.1 = x.1
theorem varR_ok (i n : Int) : PartOK (varR i n) := by
  unfold varR
  split
  · exact ⟨⟨(by show (0 : Int) ≤ 0; omega), (by show (0 : Int) ≤ 100; omega)⟩, (fun y hy => by cases hy), wf_nil, rfl⟩
  · rename_i h
    split
    · exact ⟨⟨(by show (0 : Int) ≤ 0; omega), (by show (0 : Int) ≤ 100; omega)⟩, (fun y hy => by cases hy), wf_nil, rfl⟩
    · rename_i h2
      refine ⟨⟨(by show (0 : Int) ≤ 0; omega), (by show (0 : Int) ≤ 100; omega)⟩, (fun y hy => ?_), wf_one ⟨by omega, by omega⟩, ?_⟩
      · simp at hy; subst hy; exact ⟨by omega, by omega, by omega, by omega⟩
      · unfold trimL; split <;> rfl
theorem ofR_ok (n : Int) : PartOK (ofR n) := by
  unfold ofR
  split
  · exact ⟨⟨(by show (0 : Int) ≤ 0; omega), (by show (0 : Int) ≤ 100; omega)⟩, (fun y hy => by cases hy), wf_nil, rfl⟩
  · split
    · exact ⟨⟨(by show (0 : Int) ≤ 0; omega), (by show (0 : Int) ≤ 100; omega)⟩, (fun y hy => by cases hy), wf_nil, rfl⟩
    · refine ⟨⟨by show (0 : Int) ≤ n; omega, by show n ≤ 100; omega⟩, (fun y hy => by cases hy), wf_nil, rfl⟩
theorem go_ok {neg : Bool} {t r : Bs} {x : Lvl × Int} (h : goP neg t = some (x, r)) : PartOK x := by
  unfold goP at h
  split at h
  · cases h
  · split at h
    · cases h; exact varR_ok _ _
    · split at h
      · cases h
      · cases h; exact varR_ok _ _
theorem part_ok {t r : Bs} {x : Lvl × Int} (h : partP t = some (x, r)) : PartOK x := by
  unfold partP at h
  split at h
  · exact go_ok h
  · split at h
    · exact go_ok h
    · split at h
      · cases h
      · cases h; exact ofR_ok _

theorem m71_eq {L : Lvl} (hL : PartOK (L, 0)) (C : Int) (M : IMap) : m71f4 L 0 C M = some (L.vs.foldl rzM M) := by
  unfold m71f4
  have hv := hL.v
  have key := fold_loop (step := m71f4_l0 L 0) (l := L.vs) rzM (fun _ _ => True) (by have := hL.wf.len; exact Nat.le_trans this (by decide)) (fun k y s hy _ => by
    have hk := (List.getElem?_eq_some_iff.1 hy).1
    have hy' : okV y := hv y (List.mem_of_getElem? hy)
    refine ⟨?_, trivial⟩
    unfold m71f4_l0
    dsimp only
    rw [decide_eq_true (by omega : (k : Int) < L.vs.length), cond_true, idx_nat (Int.natCast_nonneg _) (by simpa using hy), Option.bind_some]
    unfold m70f5
    rw [w64_id (n := y.2 + 0) (by have := hy'.2.2; omega) (by have := hy'.2.2; omega), Int.add_zero, rz_stepM]
    rfl) (fun s _ => by unfold m71f4_l0; dsimp only; rw [decide_eq_false (by omega), cond_false]) M trivial
  rw [key.1]; rfl

theorem m54_eq (c : UInt8) (s : Bs) (bad : Bool) (e C : Int) (M : IMap) : m54f1 [c] s bad e C M = some ((tkc c s).getD s) := by
  unfold m54f1
  obtain ⟨h1, h2⟩ := tkc_pre c s
  rw [h1, h2]
  cases tkc c s <;> rfl

/-- what the program makes of a part -/
theorem m55_eq {t : Bs} (ht : t.length ≤ 100000) (e C : Int) (M : IMap) : ∃ x, m55f2 t false e C M = some x ∧ match partP t with
    | some (L, r) => x = (r, false, (if e = 0 then L.2 else e), max C L.1.c, L.1.vs.foldl rzM M)
    | none => x.2.1 = true := by
  -- the end of the part
  have fin : ∀ (L : Lvl × Int) (r : Bs) (bad : Bool), PartOK L → (Option.bind (cond (e == 0) (some L.2) (some e)) fun v4 => Option.bind (m71f4 ⟨L.1.c, L.1.vs⟩ 0 C M) fun x5 => some (r, bad, v4, max C (w64 (L.1.c + 0)), x5)) = some (r, bad, (if e = 0 then L.2 else e), max C L.1.c, L.1.vs.foldl rzM M) := by
    intro L r bad hL
    rw [m71_eq (L := ⟨L.1.c, L.1.vs⟩) ⟨hL.c, hL.v, hL.wf, hL.tr⟩]
    have hc := hL.c
    rw [Int.add_zero, w64_id (by omega) (by omega)]
    by_cases he : e = 0
    · rw [show (e == 0) = true by simpa using he, if_pos he]; rfl
    · rw [show (e == 0) = false by simpa using he, if_neg he]; rfl
  -- a variable, behind its sign
  have var : ∀ (t' : Bs) (neg : Bool), t'.length ≤ 100000 → ∃ y : Int × Int × List LV × Bs × Bool, (Option.bind (m81f3 t' false e C M) fun x5 => Option.bind (cond neg (some (w64 (-1 - x5.1))) (some x5.1)) fun v6 => Option.bind (m53f0 x5.2.1 x5.2.2 e C M) fun _ =>
      Option.bind (m54f1 [43] (x5.2.1.dropWhile (· == 32)) x5.2.2 e C M) fun x8 => Option.bind (cond (Lib.hasPrefix (x5.2.1.dropWhile (· == 32)) [43]) (Option.bind (m53f0 x8 x5.2.2 e C M) fun _ => Option.bind (m81f3 (x8.dropWhile (· == 32)) x5.2.2 e C M) fun x12 => some (x12.1, x12.2.1, x12.2.2)) (some (0, x8, x5.2.2))) fun v9 =>
      Option.bind (m17 v6 v9.1) fun x10 => some (x10.2, x10.1.c, x10.1.vs, v9.2.1, v9.2.2)) = some y ∧ match goP neg t' with
      | some (L, r) => y = (L.2, L.1.c, L.1.vs, r, false)
      | none => y.2.2.2.2 = true ∧ PartOK (⟨y.2.1, y.2.2.1⟩, y.1) := by
    intro t' neg ht'
    obtain ⟨x5, h5, h5'⟩ := m81_eq ht' false e C M
    rw [h5, Option.bind_some]
    unfold goP
    have e6 : ∀ z : Int, ∃ v6, (cond neg (some (w64 (-1 - z))) (some z) : Option Int) = some v6 := fun z => by cases neg <;> exact ⟨_, rfl⟩
    cases hn : numP t' with
    | none =>
      rw [hn] at h5'
      have hb : x5.2.2 = true := h5'
      obtain ⟨v6, hv6⟩ := e6 x5.1
      rw [hv6, Option.bind_some]
      unfold m53f0
      simp only [Option.bind_some]
      rw [m54_eq, Option.bind_some, (tkc_pre 43 _).1, hb]
      cases ht43 : tkc 43 (x5.2.1.dropWhile (· == 32)) with
      | none =>
        simp only [Option.isSome_none, cond_false, Option.bind_some]
        rw [(m17_R _ _).1]
        exact ⟨_, rfl, rfl, varR_ok _ _⟩
      | some r2 =>
        simp only [Option.isSome_some, cond_true, Option.bind_some, Option.getD_some]
        have key : ∃ z, m81f3 (r2.dropWhile (· == 32)) true e C M = some z ∧ z.2.2 = true := by
          by_cases hl : (r2.dropWhile (· == 32)).length ≤ 100000
          · obtain ⟨z, hz, hz'⟩ := m81_eq hl true e C M
            refine ⟨z, hz, ?_⟩
            cases hq : numP (r2.dropWhile (· == 32)) with
            | none => rw [hq] at hz'; exact hz'
            | some q => rw [hq] at hz'; dsimp only at hz'; rw [hz']
          · exact (hl (by
              have a1 := sp_len r2
              have a2 := congrArg List.length (tkc_some ht43)
              rw [List.length_cons] at a2
              have a3 := sp_len x5.2.1
              have a4 : x5.2.1.length ≤ t'.length := by
                unfold m81f3 at h5
                rw [m81_loop ht', Option.bind_some] at h5
                have g : (cond (decide (0 ≤ ((dig t').length : Int))) (Nat.ble ((dig t').length : Int).toNat t'.length) false) = true := by
                  rw [decide_eq_true (by omega), cond_true]; exact ble_t (by rw [Int.toNat_natCast]; exact tw_le t')
                rw [guard_t g, guard_t g] at h5
                obtain ⟨v4, -, h5⟩ := bindO h5
                cases v4 with
                | true => cases h5; simp
                | false =>
                  simp only [cond_false] at h5
                  obtain ⟨-, h5⟩ := guardS h5
                  cases h5; simp
              unfold sp at a1 a3
              omega)).elim
        obtain ⟨z, hz, hz'⟩ := key
        rw [hz]
        simp only [Option.bind_some]
        rw [(m17_R _ _).1]
        exact ⟨_, rfl, hz', varR_ok _ _⟩
    | some p =>
      obtain ⟨n, r⟩ := p
      rw [hn] at h5'
      dsimp only at h5' ⊢
      subst h5'
      have hr := num_len hn
      dsimp only
      have e7 : (cond neg (some (w64 (-1 - (n : Int)))) (some (n : Int)) : Option Int) = some (if neg then -1 - (n : Int) else n) := by
        cases neg with
        | false => rfl
        | true =>
          have hbig := num_small hn
          rw [if_pos rfl, cond_true, w64_id (by omega) (by omega)]
      rw [e7, Option.bind_some]
      unfold m53f0
      simp only [Option.bind_some]
      rw [m54_eq, Option.bind_some, (tkc_pre 43 _).1]
      show ∃ y, _ ∧ _
      cases ht43 : tkc 43 (r.dropWhile (· == 32)) with
      | none =>
        have ht43' : tkc 43 (sp r) = none := ht43
        rw [ht43']
        simp only [Option.isSome_none, cond_false, Option.bind_some, Option.getD_none]
        rw [(m17_R _ _).1]
        exact ⟨_, rfl, rfl⟩
      | some r2 =>
        have ht43' : tkc 43 (sp r) = some r2 := ht43
        rw [ht43']
        simp only [Option.isSome_some, cond_true, Option.bind_some, Option.getD_some]
        have hl : (sp r2).length ≤ 100000 := by
          have a1 := sp_len r2
          have a2 := congrArg List.length (tkc_some ht43')
          rw [List.length_cons] at a2
          have a3 := sp_len r
          omega
        obtain ⟨z, hz, hz'⟩ := m81_eq hl false e C M
        have hz2 : m81f3 (r2.dropWhile (· == 32)) false e C M = some z := hz
        rw [hz2]
        simp only [Option.bind_some]
        rw [(m17_R _ _).1]
        cases hq : numP (sp r2) with
        | none => rw [hq] at hz'; exact ⟨_, rfl, hz', varR_ok _ _⟩
        | some q =>
          rw [hq] at hz'
          dsimp only at hz'
          subst hz'
          exact ⟨_, rfl, rfl⟩
  -- the whole
  unfold m55f2 partP
  rw [m54_eq, Option.bind_some, (tkc_pre 117 t).1]
  cases h117 : tkc 117 t with
  | some t' =>
    have hl : t'.length ≤ 100000 := by
      have a2 := congrArg List.length (tkc_some h117)
      rw [List.length_cons] at a2; omega
    obtain ⟨y, hy, hy'⟩ := var t' false hl
    simp only [Option.isSome_some, cond_true, Option.bind_some, Option.getD_some, Bool.not_true]
    rw [hy, Option.bind_some]
    cases hg : goP false t' with
    | none =>
      rw [hg] at hy'
      rw [show (⟨y.2.1, y.2.2.1⟩ : Lvl) = (((⟨y.2.1, y.2.2.1⟩ : Lvl), y.1) : Lvl × Int).1 from rfl]
      have := fin (⟨y.2.1, y.2.2.1⟩, y.1) y.2.2.2.1 y.2.2.2.2 hy'.2
      exact ⟨_, this, hy'.1⟩
    | some q =>
      rw [hg] at hy'
      obtain ⟨L, r⟩ := q
      dsimp only at hy' ⊢
      subst hy'
      exact ⟨_, fin L r false (go_ok hg), rfl⟩
  | none =>
    simp only [Option.isSome_none, cond_false, Option.getD_none, Bool.not_false]
    rw [m54_eq, (tkc_pre 63 t).1]
    cases h63 : tkc 63 t with
    | some t' =>
      have hl : t'.length ≤ 100000 := by
        have a2 := congrArg List.length (tkc_some h63)
        rw [List.length_cons] at a2; omega
      obtain ⟨y, hy, hy'⟩ := var t' true hl
      simp only [Option.isSome_some, cond_true, Option.bind_some, Option.getD_some]
      simp only [cond_true, Option.bind_some] at hy
      rw [hy, Option.bind_some]
      cases hg : goP true t' with
      | none =>
        rw [hg] at hy'
        have := fin (⟨y.2.1, y.2.2.1⟩, y.1) y.2.2.2.1 y.2.2.2.2 hy'.2
        exact ⟨_, this, hy'.1⟩
      | some q =>
        rw [hg] at hy'
        obtain ⟨L, r⟩ := q
        dsimp only at hy' ⊢
        subst hy'
        exact ⟨_, fin L r false (go_ok hg), rfl⟩
    | none =>
      simp only [Option.isSome_none, cond_false, Option.bind_some, Option.getD_none]
      obtain ⟨x5, h5, h5'⟩ := m81_eq ht false e C M
      rw [h5]
      simp only [Option.bind_some]
      rw [(m15_R _).1]
      simp only [Option.bind_some]
      have := fin (ofR x5.1) x5.2.1 x5.2.2 (ofR_ok _)
      refine ⟨_, this, ?_⟩
      cases hn : numP t with
      | none => rw [hn] at h5'; exact h5'
      | some q => rw [hn] at h5'; dsimp only at h5' ⊢; subst h5'; rfl

/-! ### The list of parts -/
def foldM (M : IMap) (xs : List (Lvl × Int)) : IMap := xs.foldl (fun M x => x.1.vs.foldl rzM M) M
def foldC (C : Int) (xs : List (Lvl × Int)) : Int := xs.foldl (fun C x => max C x.1.c) C
theorem prog_loop : ∀ (n : Nat) (t : Bs) (M : IMap) (C e : Int) (fuel : Nat), t.length < n → t.length ≤ 100000 → n + 2 ≤ fuel → ∃ o, loopN m26_l0 fuel (true, M, C, t, false, e) = some o ∧ match restP n t with
    | some (xs, r) => o = (foldM M xs, foldC C xs, r, false, firstE e xs)
    | none => o.2.2.2.1 = true
  | 0, t, M, C, e, fuel, h, _, _ => by omega
  | n + 1, t, M, C, e, fuel, h, hl, hf => by
    obtain ⟨f, rfl⟩ : ∃ f, fuel = f + 1 := ⟨fuel - 1, by omega⟩
    have a1 := sp_len t
    obtain ⟨x, hx, hx'⟩ := m55_eq (t := sp t) (by omega) e C M
    have hx2 : m55f2 (t.dropWhile (· == 32)) false e C M = some x := hx
    have step : m26_l0 (true, M, C, t, false, e) = some (.next ((tkc 44 (sp x.1)).isSome, x.2.2.2.2, x.2.2.2.1, (tkc 44 (sp x.1)).getD (sp x.1), x.2.1, x.2.2.1)) := by
      unfold m26_l0 m53f0
      simp only [cond_true, Bool.not_false, Option.bind_some]
      rw [hx2, Option.bind_some]
      have e1 := m54_eq 44 (x.1.dropWhile (· == 32)) x.2.1 x.2.2.1 x.2.2.2.1 x.2.2.2.2
      rw [e1, Option.bind_some, (tkc_pre 44 _).1]
      rfl
    rw [loopN, step]
    dsimp only
    unfold restP
    have stop : ∀ (more : Bool) (M' : IMap) (C' : Int) (r : Bs) (e' : Int), loopN m26_l0 f (more, M', C', r, true, e') = some (M', C', r, true, e') := fun more M' C' r e' => by
      obtain ⟨f', rfl⟩ : ∃ f', f = f' + 1 := ⟨f - 1, by omega⟩
      rw [loopN]
      unfold m26_l0
      cases more <;> rfl
    cases hp : partP (sp t) with
    | none =>
      rw [hp] at hx'
      have hb : x.2.1 = true := hx'
      rw [hb, stop]
      exact ⟨_, rfl, rfl⟩
    | some q =>
      obtain ⟨L, r⟩ := q
      rw [hp] at hx'
      dsimp only at hx' ⊢
      subst hx'
      dsimp only
      have l1 := part_len hp
      have l2 := sp_len r
      cases h44 : tkc 44 (sp r) with
      | none =>
        obtain ⟨f', rfl⟩ : ∃ f', f = f' + 1 := ⟨f - 1, by omega⟩
        rw [loopN]
        refine ⟨(L.1.vs.foldl rzM M, max C L.1.c, sp r, false, if e = 0 then L.2 else e), ?_, rfl⟩
        unfold m26_l0
        rfl
      | some r2 =>
        have l3 := congrArg List.length (tkc_some h44)
        rw [List.length_cons] at l3
        obtain ⟨o, ho, ho'⟩ := prog_loop n r2 (L.1.vs.foldl rzM M) (max C L.1.c) (if e = 0 then L.2 else e) f (by omega) (by omega) (by omega)
        refine ⟨o, ho, ?_⟩
        dsimp only
        cases hr : restP n r2 with
        | none => rw [hr] at ho'; exact ho'
        | some q =>
          rw [hr] at ho'
          exact ho'
end Go.Proofs.YtcapifnaceegmaaGreatDoor
