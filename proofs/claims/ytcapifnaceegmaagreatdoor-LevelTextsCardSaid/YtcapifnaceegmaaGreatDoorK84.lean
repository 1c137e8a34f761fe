/- The card of LevelTexts is proved here: for every level the law returns true, and the arguments read behind the call as they did before; condition: the listed package-level variables hold what the program's text lays (tied). -/
import Derived.Test.YtcapifnaceegmaaGreatDoorK83
import Derived.Deep.Slices
import Derived.ChangeSame
import Derived.Test.YtcapifnaceegmaaGreatDoorRows
import Derived.Test.YtcapifnaceegmaaGreatDoorCards
import Derived.Test.YtcapifnaceegmaaGreatDoorTie
import Derived.ProofKit
import Derived.Carry
import Derived.Lay
import Derived.SevenTiedAt
namespace Go.Proofs.YtcapifnaceegmaaGreatDoor
open Go.RowKit
set_option linter.unusedSimpArgs false
set_option linter.unusedVariables false
theorem m17_R (i n : Int) : m17 i n = some (varR i n) ∧ m18 i n = some (varR i n) := by
  unfold m17 m18 varR
  have e : decide (8 ≤ i) = decide (7 < i) := by rw [Bool.eq_iff_iff, decide_eq_true_eq, decide_eq_true_eq]; omega
  rw [e]
  by_cases h1 : i < -65536
  · simp [h1]
  · by_cases h2 : 7 < i
    · simp [h1, h2]
    · by_cases h3 : n < 0
      · simp [h1, h2, h3]
      · by_cases h4 : 100 < n
        · simp [h1, h2, h3, h4]
        · simp [h1, h2, h3, h4]
theorem m15_R (n : Int) : m15 n = some (ofR n) ∧ m16 n = some (ofR n) := by
  unfold m15 m16 ofR
  by_cases h3 : n < 0
  · simp [h3]
  · by_cases h4 : 100 < n
    · simp [h3, h4]
    · simp [h3, h4]
structure PartOK (x : Lvl × Int) : Prop where
  c : 0 ≤ x.1.c ∧ x.1.c ≤ 100
  v : ∀ y ∈ x.1.vs, okV y
  wf : WF x.1.vs
  tr : trimL x.1 = x.1
theorem varR_ok (i n : Int) : PartOK (varR i n) := by
  unfold varR
  split
  · exact ⟨⟨(by show (0 : Int) ≤ 0; omega), (by show (0 : Int) ≤ 100; omega)⟩, (fun y hy => by cases hy), wf_nil, rfl⟩
  · rename_i h
    split
    · exact ⟨⟨(by show (0 : Int) ≤ 0; omega), (by show (0 : Int) ≤ 100; omega)⟩, (fun y hy => by cases hy), wf_nil, rfl⟩
    · rename_i h2
      refine ⟨⟨(by show (0 : Int) ≤ 0; omega), (by show (0 : Int) ≤ 100; omega)⟩, (fun y hy => ?_), wf_one ⟨by omega, by omega⟩, ?_⟩
      · simp at hy; subst hy; exact ⟨by omega, by omega, by omega, by omega⟩
      · unfold trimL; split <;> rfl
theorem ofR_ok (n : Int) : PartOK (ofR n) := by
  unfold ofR
  split
  · exact ⟨⟨(by show (0 : Int) ≤ 0; omega), (by show (0 : Int) ≤ 100; omega)⟩, (fun y hy => by cases hy), wf_nil, rfl⟩
  · split
    · exact ⟨⟨(by show (0 : Int) ≤ 0; omega), (by show (0 : Int) ≤ 100; omega)⟩, (fun y hy => by cases hy), wf_nil, rfl⟩
    · refine ⟨⟨by show (0 : Int) ≤ n; omega, by show n ≤ 100; omega⟩, (fun y hy => by cases hy), wf_nil, rfl⟩
theorem go_ok {neg : Bool} {t r : Bs} {x : Lvl × Int} (h : goP neg t = some (x, r)) : PartOK x := by
  unfold goP at h
  split at h
  · cases h
  · split at h
    · cases h; exact varR_ok _ _
    · split at h
      · cases h
      · cases h; exact varR_ok _ _
theorem part_ok {t r : Bs} {x : Lvl × Int} (h : partP t = some (x, r)) : PartOK x := by
  unfold partP at h
  split at h
  · exact go_ok h
  · split at h
    · exact go_ok h
    · split at h
      · cases h
      · cases h; exact ofR_ok _
theorem m71_eq {L : Lvl} (hL : PartOK (L, 0)) (C : Int) (M : IMap) : m71f4 L 0 C M = some (L.vs.foldl rzM M) := by
  unfold m71f4
  have hv := hL.v
  have key := fold_loop (step := m71f4_l0 L 0) (l := L.vs) rzM (fun _ _ => True) (by have := hL.wf.len; exact Nat.le_trans this (by decide)) (fun k y s hy _ => by
    have hk := (List.getElem?_eq_some_iff.1 hy).1
    have hy' : okV y := hv y (List.mem_of_getElem? hy)
    refine ⟨?_, trivial⟩
    unfold m71f4_l0
    dsimp only
    rw [decide_eq_true (by omega : (k : Int) < L.vs.length), cond_true, idx_nat (Int.natCast_nonneg _) (by simpa using hy), Option.bind_some]
    unfold m70f5
    rw [w64_id (n := y.2 + 0) (by have := hy'.2.2; omega) (by have := hy'.2.2; omega), Int.add_zero, rz_stepM]
    rfl) (fun s _ => by unfold m71f4_l0; dsimp only; rw [decide_eq_false (by omega), cond_false]) M trivial
  rw [key.1]; rfl
theorem m54_eq (c : UInt8) (s : Bs) (bad : Bool) (e C : Int) (M : IMap) : m54f1 [c] s bad e C M = some ((tkc c s).getD s) := by
  unfold m54f1
  obtain ⟨h1, h2⟩ := tkc_pre c s
  rw [h1, h2]
  cases tkc c s <;> rfl
theorem m55_eq {t : Bs} (ht : t.length ≤ 100000) (e C : Int) (M : IMap) : ∃ x, m55f2 t false e C M = some x ∧ match partP t with
    | some (L, r) => x = (r, false, (if e = 0 then L.2 else e), max C L.1.c, L.1.vs.foldl rzM M)
    | none => x.2.1 = true := by
  have fin : ∀ (L : Lvl × Int) (r : Bs) (bad : Bool), PartOK L → (Option.bind (cond (e == 0) (some L.2) (some e)) fun v4 => Option.bind (m71f4 ⟨L.1.c, L.1.vs⟩ 0 C M) fun x5 => some (r, bad, v4, max C (w64 (L.1.c + 0)), x5)) = some (r, bad, (if e = 0 then L.2 else e), max C L.1.c, L.1.vs.foldl rzM M) := by
    intro L r bad hL
    rw [m71_eq (L := ⟨L.1.c, L.1.vs⟩) ⟨hL.c, hL.v, hL.wf, hL.tr⟩]
    have hc := hL.c
    rw [Int.add_zero, w64_id (by omega) (by omega)]
    by_cases he : e = 0
    · rw [show (e == 0) = true by simpa using he, if_pos he]; rfl
    · rw [show (e == 0) = false by simpa using he, if_neg he]; rfl
  have var : ∀ (t' : Bs) (neg : Bool), t'.length ≤ 100000 → ∃ y : Int × Int × List LV × Bs × Bool, (Option.bind (m81f3 t' false e C M) fun x5 => Option.bind (cond neg (some (w64 (-1 - x5.1))) (some x5.1)) fun v6 => Option.bind (m53f0 x5.2.1 x5.2.2 e C M) fun _ =>
      Option.bind (m54f1 [43] (x5.2.1.dropWhile (· == 32)) x5.2.2 e C M) fun x8 => Option.bind (cond (Lib.hasPrefix (x5.2.1.dropWhile (· == 32)) [43]) (Option.bind (m53f0 x8 x5.2.2 e C M) fun _ => Option.bind (m81f3 (x8.dropWhile (· == 32)) x5.2.2 e C M) fun x12 => some (x12.1, x12.2.1, x12.2.2)) (some (0, x8, x5.2.2))) fun v9 =>
      Option.bind (m17 v6 v9.1) fun x10 => some (x10.2, x10.1.c, x10.1.vs, v9.2.1, v9.2.2)) = some y ∧ match goP neg t' with
      | some (L, r) => y = (L.2, L.1.c, L.1.vs, r, false)
      | none => y.2.2.2.2 = true ∧ PartOK (⟨y.2.1, y.2.2.1⟩, y.1) := by
    intro t' neg ht'
    obtain ⟨x5, h5, h5'⟩ := m81_eq ht' false e C M
    rw [h5, Option.bind_some]
    unfold goP
    have e6 : ∀ z : Int, ∃ v6, (cond neg (some (w64 (-1 - z))) (some z) : Option Int) = some v6 := fun z => by cases neg <;> exact ⟨_, rfl⟩
    cases hn : numP t' with
    | none =>
      rw [hn] at h5'
      have hb : x5.2.2 = true := h5'
      obtain ⟨v6, hv6⟩ := e6 x5.1
      rw [hv6, Option.bind_some]
      unfold m53f0
      simp only [Option.bind_some]
      rw [m54_eq, Option.bind_some, (tkc_pre 43 _).1, hb]
      cases ht43 : tkc 43 (x5.2.1.dropWhile (· == 32)) with
      | none =>
        simp only [Option.isSome_none, cond_false, Option.bind_some]
        rw [(m17_R _ _).1]
        exact ⟨_, rfl, rfl, varR_ok _ _⟩
      | some r2 =>
        simp only [Option.isSome_some, cond_true, Option.bind_some, Option.getD_some]
        have key : ∃ z, m81f3 (r2.dropWhile (· == 32)) true e C M = some z ∧ z.2.2 = true := by
          by_cases hl : (r2.dropWhile (· == 32)).length ≤ 100000
          · obtain ⟨z, hz, hz'⟩ := m81_eq hl true e C M
            refine ⟨z, hz, ?_⟩
            cases hq : numP (r2.dropWhile (· == 32)) with
            | none => rw [hq] at hz'; exact hz'
            | some q => rw [hq] at hz'; dsimp only at hz'; rw [hz']
          · exact (hl (by
              have a1 := sp_len r2
              have a2 := congrArg List.length (tkc_some ht43)
              rw [List.length_cons] at a2
              have a3 := sp_len x5.2.1
              have a4 : x5.2.1.length ≤ t'.length := by
                unfold m81f3 at h5
                rw [m81_loop ht', Option.bind_some] at h5
                have g : (cond (decide (0 ≤ ((dig t').length : Int))) (Nat.ble ((dig t').length : Int).toNat t'.length) false) = true := by
                  rw [decide_eq_true (by omega), cond_true]; exact ble_t (by rw [Int.toNat_natCast]; exact tw_le t')
                rw [guard_t g, guard_t g] at h5
                obtain ⟨v4, -, h5⟩ := bindO h5
                cases v4 with
                | true => cases h5; simp
                | false =>
                  simp only [cond_false] at h5
                  obtain ⟨-, h5⟩ := guardS h5
                  cases h5; simp
              unfold sp at a1 a3
              omega)).elim
        obtain ⟨z, hz, hz'⟩ := key
        rw [hz]
        simp only [Option.bind_some]
        rw [(m17_R _ _).1]
        exact ⟨_, rfl, hz', varR_ok _ _⟩
    | some p =>
      obtain ⟨n, r⟩ := p
      rw [hn] at h5'
      dsimp only at h5' ⊢
      subst h5'
      have hr := num_len hn
      dsimp only
      have e7 : (cond neg (some (w64 (-1 - (n : Int)))) (some (n : Int)) : Option Int) = some (if neg then -1 - (n : Int) else n) := by
        cases neg with
        | false => rfl
        | true =>
          have hbig := num_small hn
          rw [if_pos rfl, cond_true, w64_id (by omega) (by omega)]
      rw [e7, Option.bind_some]
      unfold m53f0
      simp only [Option.bind_some]
      rw [m54_eq, Option.bind_some, (tkc_pre 43 _).1]
      show ∃ y, _ ∧ _
      cases ht43 : tkc 43 (r.dropWhile (· == 32)) with
      | none =>
        have ht43' : tkc 43 (sp r) = none := ht43
        rw [ht43']
        simp only [Option.isSome_none, cond_false, Option.bind_some, Option.getD_none]
        rw [(m17_R _ _).1]
        exact ⟨_, rfl, rfl⟩
      | some r2 =>
        have ht43' : tkc 43 (sp r) = some r2 := ht43
        rw [ht43']
        simp only [Option.isSome_some, cond_true, Option.bind_some, Option.getD_some]
        have hl : (sp r2).length ≤ 100000 := by
          have a1 := sp_len r2
          have a2 := congrArg List.length (tkc_some ht43')
          rw [List.length_cons] at a2
          have a3 := sp_len r
          omega
        obtain ⟨z, hz, hz'⟩ := m81_eq hl false e C M
        have hz2 : m81f3 (r2.dropWhile (· == 32)) false e C M = some z := hz
        rw [hz2]
        simp only [Option.bind_some]
        rw [(m17_R _ _).1]
        cases hq : numP (sp r2) with
        | none => rw [hq] at hz'; exact ⟨_, rfl, hz', varR_ok _ _⟩
        | some q =>
          rw [hq] at hz'
          dsimp only at hz'
          subst hz'
          exact ⟨_, rfl, rfl⟩
  unfold m55f2 partP
  rw [m54_eq, Option.bind_some, (tkc_pre 117 t).1]
  cases h117 : tkc 117 t with
  | some t' =>
    have hl : t'.length ≤ 100000 := by
      have a2 := congrArg List.length (tkc_some h117)
      rw [List.length_cons] at a2; omega
    obtain ⟨y, hy, hy'⟩ := var t' false hl
    simp only [Option.isSome_some, cond_true, Option.bind_some, Option.getD_some, Bool.not_true]
    rw [hy, Option.bind_some]
    cases hg : goP false t' with
    | none =>
      rw [hg] at hy'
      rw [show (⟨y.2.1, y.2.2.1⟩ : Lvl) = (((⟨y.2.1, y.2.2.1⟩ : Lvl), y.1) : Lvl × Int).1 from rfl]
      have := fin (⟨y.2.1, y.2.2.1⟩, y.1) y.2.2.2.1 y.2.2.2.2 hy'.2
      exact ⟨_, this, hy'.1⟩
    | some q =>
      rw [hg] at hy'
      obtain ⟨L, r⟩ := q
      dsimp only at hy' ⊢
      subst hy'
      exact ⟨_, fin L r false (go_ok hg), rfl⟩
  | none =>
    simp only [Option.isSome_none, cond_false, Option.getD_none, Bool.not_false]
    rw [m54_eq, (tkc_pre 63 t).1]
    cases h63 : tkc 63 t with
    | some t' =>
      have hl : t'.length ≤ 100000 := by
        have a2 := congrArg List.length (tkc_some h63)
        rw [List.length_cons] at a2; omega
      obtain ⟨y, hy, hy'⟩ := var t' true hl
      simp only [Option.isSome_some, cond_true, Option.bind_some, Option.getD_some]
      simp only [cond_true, Option.bind_some] at hy
      rw [hy, Option.bind_some]
      cases hg : goP true t' with
      | none =>
        rw [hg] at hy'
        have := fin (⟨y.2.1, y.2.2.1⟩, y.1) y.2.2.2.1 y.2.2.2.2 hy'.2
        exact ⟨_, this, hy'.1⟩
      | some q =>
        rw [hg] at hy'
        obtain ⟨L, r⟩ := q
        dsimp only at hy' ⊢
        subst hy'
        exact ⟨_, fin L r false (go_ok hg), rfl⟩
    | none =>
      simp only [Option.isSome_none, cond_false, Option.bind_some, Option.getD_none]
      obtain ⟨x5, h5, h5'⟩ := m81_eq ht false e C M
      rw [h5]
      simp only [Option.bind_some]
      rw [(m15_R _).1]
      simp only [Option.bind_some]
      have := fin (ofR x5.1) x5.2.1 x5.2.2 (ofR_ok _)
      refine ⟨_, this, ?_⟩
      cases hn : numP t with
      | none => rw [hn] at h5'; exact h5'
      | some q => rw [hn] at h5'; dsimp only at h5' ⊢; subst h5'; rfl
def foldM (M : IMap) (xs : List (Lvl × Int)) : IMap := xs.foldl (fun M x => x.1.vs.foldl rzM M) M
def foldC (C : Int) (xs : List (Lvl × Int)) : Int := xs.foldl (fun C x => max C x.1.c) C
theorem prog_loop : ∀ (n : Nat) (t : Bs) (M : IMap) (C e : Int) (fuel : Nat), t.length < n → t.length ≤ 100000 → n + 2 ≤ fuel → ∃ o, loopN m26_l0 fuel (true, M, C, t, false, e) = some o ∧ match restP n t with
    | some (xs, r) => o = (foldM M xs, foldC C xs, r, false, firstE e xs)
    | none => o.2.2.2.1 = true
  | 0, t, M, C, e, fuel, h, _, _ => by omega
  | n + 1, t, M, C, e, fuel, h, hl, hf => by
    obtain ⟨f, rfl⟩ : ∃ f, fuel = f + 1 := ⟨fuel - 1, by omega⟩
    have a1 := sp_len t
    obtain ⟨x, hx, hx'⟩ := m55_eq (t := sp t) (by omega) e C M
    have hx2 : m55f2 (t.dropWhile (· == 32)) false e C M = some x := hx
    have step : m26_l0 (true, M, C, t, false, e) = some (.next ((tkc 44 (sp x.1)).isSome, x.2.2.2.2, x.2.2.2.1, (tkc 44 (sp x.1)).getD (sp x.1), x.2.1, x.2.2.1)) := by
      unfold m26_l0 m53f0
      simp only [cond_true, Bool.not_false, Option.bind_some]
      rw [hx2, Option.bind_some]
      have e1 := m54_eq 44 (x.1.dropWhile (· == 32)) x.2.1 x.2.2.1 x.2.2.2.1 x.2.2.2.2
      rw [e1, Option.bind_some, (tkc_pre 44 _).1]
      rfl
    rw [loopN, step]
    dsimp only
    unfold restP
    have stop : ∀ (more : Bool) (M' : IMap) (C' : Int) (r : Bs) (e' : Int), loopN m26_l0 f (more, M', C', r, true, e') = some (M', C', r, true, e') := fun more M' C' r e' => by
      obtain ⟨f', rfl⟩ : ∃ f', f = f' + 1 := ⟨f - 1, by omega⟩
      rw [loopN]
      unfold m26_l0
      cases more <;> rfl
    cases hp : partP (sp t) with
    | none =>
      rw [hp] at hx'
      have hb : x.2.1 = true := hx'
      rw [hb, stop]
      exact ⟨_, rfl, rfl⟩
    | some q =>
      obtain ⟨L, r⟩ := q
      rw [hp] at hx'
      dsimp only at hx' ⊢
      subst hx'
      dsimp only
      have l1 := part_len hp
      have l2 := sp_len r
      cases h44 : tkc 44 (sp r) with
      | none =>
        obtain ⟨f', rfl⟩ : ∃ f', f = f' + 1 := ⟨f - 1, by omega⟩
        rw [loopN]
        refine ⟨(L.1.vs.foldl rzM M, max C L.1.c, sp r, false, if e = 0 then L.2 else e), ?_, rfl⟩
        unfold m26_l0
        rfl
      | some r2 =>
        have l3 := congrArg List.length (tkc_some h44)
        rw [List.length_cons] at l3
        obtain ⟨o, ho, ho'⟩ := prog_loop n r2 (L.1.vs.foldl rzM M) (max C L.1.c) (if e = 0 then L.2 else e) f (by omega) (by omega) (by omega)
        refine ⟨o, ho, ?_⟩
        dsimp only
        cases hr : restP n r2 with
        | none => rw [hr] at ho'; exact ho'
        | some q =>
          rw [hr] at ho'
          exact ho'
end Go.Proofs.YtcapifnaceegmaaGreatDoor
namespace Go.Proofs.YtcapifnaceegmaaGreatDoor
open Go.RowKit
set_option linter.unusedSimpArgs false
set_option linter.unusedVariables false
theorem numV_snoc (ds : Bs) (b : UInt8) : numV (ds ++ [b]) = 10 * numV ds + (b.toNat - 48) := by unfold numV; rw [List.foldl_append]; rfl
end Go.Proofs.YtcapifnaceegmaaGreatDoor
namespace Go.Proofs.YtcapifnaceegmaaGreatDoor
open Go.RowKit
set_option linter.unusedSimpArgs false
set_option linter.unusedVariables false
theorem sum_step : ∀ (xs : List (Lvl × Int)) (M : IMap) (C : Int) (vs : List LV), (∀ x ∈ xs, PartOK x) → RMap M vs → GoodL ⟨C, vs⟩ → C ≤ 100 → (∀ y ∈ vs, y.2 ≤ 100) →
    ∃ vs', RMap (foldM M xs) vs' ∧ GoodL ⟨foldC C xs, vs'⟩ ∧ foldC C xs ≤ 100 ∧ (∀ y ∈ vs', y.2 ≤ 100) ∧ joinsL (trimL ⟨C, vs⟩) xs = trimL ⟨foldC C xs, vs'⟩
  | [], M, C, vs, _, h1, h2, h3, h4 => ⟨vs, h1, h2, h3, h4, rfl⟩
  | x :: xs, M, C, vs, hx, h1, h2, h3, h4 => by
    have p := hx x List.mem_cons_self
    have gx : GoodL x.1 := ⟨p.wf, p.c.1, fun y hy => (p.v y hy).2.2.1⟩
    have g := good_merge h2 gx
    have e : joinL (trimL ⟨C, vs⟩) x.1 = trimL ⟨max C x.1.c, mergeV vs x.1.vs⟩ := by
      rw [join_eq, trim_vs, trim_eq h2.c h2.v, trim_eq g.c g.v]
      have hmono : topOf 0 vs ≤ topOf 0 (mergeV vs x.1.vs) := topOf_mono fun y hy => by
        obtain ⟨z, hz, -, h⟩ := merge_ge_l h2.wf p.wf hy
        exact ⟨z, hz, h⟩
      rw [trimC_more h2.c p.c.1 merge_ne_l hmono]
    have := sum_step xs (x.1.vs.foldl rzM M) (max C x.1.c) (mergeV vs x.1.vs) (fun y hy => hx y (List.mem_cons_of_mem _ hy)) (h1.merge p.wf) g (by have := p.c.2; omega) (fun y hy => (merge_src h2.wf p.wf hy).elim (h4 y) fun h => (p.v y h).2.2.2)
    obtain ⟨vs', b1, b2, b3, b4, b5⟩ := this
    refine ⟨vs', b1, b2, b3, b4, ?_⟩
    show joinsL (joinL (trimL ⟨C, vs⟩) x.1) xs = _
    rw [e]; exact b5
theorem sum_all {x : Lvl × Int} {xs : List (Lvl × Int)} (hx : ∀ y ∈ x :: xs, PartOK y) : ∃ vs', RMap (foldM imNil (x :: xs)) vs' ∧ GoodL ⟨foldC 0 (x :: xs), vs'⟩ ∧ foldC 0 (x :: xs) ≤ 100 ∧ (∀ y ∈ vs', y.2 ≤ 100) ∧ joinsL x.1 xs = trimL ⟨foldC 0 (x :: xs), vs'⟩ := by
  have p := hx x List.mem_cons_self
  have gx : GoodL x.1 := ⟨p.wf, p.c.1, fun y hy => (p.v y hy).2.2.1⟩
  have h := sum_step xs (x.1.vs.foldl rzM imNil) x.1.c x.1.vs (fun y hy => hx y (List.mem_cons_of_mem _ hy)) (by have := RMap.nil.merge p.wf; rw [mergeV_nil_l] at this; exact this) gx p.c.2 (fun y hy => (p.v y hy).2.2.2)
  have e1 : trimL ⟨x.1.c, x.1.vs⟩ = x.1 := p.tr
  rw [e1] at h
  have e2 : foldC 0 (x :: xs) = foldC x.1.c xs := by
    show foldC (max 0 x.1.c) xs = _
    have := p.c.1
    rw [show max 0 x.1.c = x.1.c by omega]
  rw [e2]
  exact h
theorem m56_eq {C : Int} {M : IMap} {vs : List LV} (h : RMap M vs) (hg : GoodL ⟨C, vs⟩) (h3 : C ≤ 100) (h4 : ∀ y ∈ vs, y.2 ≤ 100) : m56f6 C M = some (0, (trimL ⟨C, vs⟩).c, (trimL ⟨C, vs⟩).vs) := by
  have h2 := h.ok.2
  have hlen : (imKeys M).length ≤ 100000 := by
    have := h.wf.len
    rw [← h2, List.length_map] at this; exact this
  have key := fold_loop (step := m56f6_l0 M) (l := imKeys M) (fun out k => out ++ [(k, imVal M k)]) (fun k s => s.length = k) (by omega) (fun k y s hy hs => by
    have hk := (List.getElem?_eq_some_iff.1 hy).1
    refine ⟨?_, by simp [hs]⟩
    unfold m56f6_l0
    dsimp only
    rw [decide_eq_true (by omega : (k : Int) < (imKeys M).length), cond_true, idx_nat (Int.natCast_nonneg _) (by simpa using hy), Option.bind_some, guard_t (ble_t (by simp; omega))]) (fun s _ => by unfold m56f6_l0; dsimp only; rw [decide_eq_false (by omega), cond_false]) [] rfl
  unfold m56f6 m83f7
  rw [Option.bind_some, guard_t h.ok.1, key.1, foldl_snoc, List.nil_append, h2, Option.bind_some, guard_t (ble_t h.wf.len)]
  have hb : bigB ⟨C, vs⟩ = false := big_no (fun j y _ hy => h4 y (List.mem_of_getElem? hy)) h3
  unfold limL
  rw [hb, if_neg Bool.false_ne_true]
theorem rest_ok : ∀ (n : Nat) (t : Bs) (xs : List (Lvl × Int)) (r : Bs), restP n t = some (xs, r) → (∀ x ∈ xs, PartOK x) ∧ xs ≠ [] ∧ r.length ≤ t.length
  | 0, t, xs, r, h => by cases h
  | n + 1, t, xs, r, h => by
    unfold restP at h
    cases hp : partP (sp t) with
    | none => rw [hp] at h; cases h
    | some q =>
      obtain ⟨x, r1⟩ := q
      rw [hp] at h
      dsimp only at h
      have l1 := part_len hp
      have l2 := sp_len t
      have l3 := sp_len r1
      cases h44 : tkc 44 (sp r1) with
      | none =>
        rw [h44] at h
        cases h
        exact ⟨fun y hy => by simp at hy; subst hy; exact part_ok hp, by simp, by omega⟩
      | some r2 =>
        rw [h44] at h
        dsimp only at h
        have l4 := congrArg List.length (tkc_some h44)
        rw [List.length_cons] at l4
        cases hr : restP n r2 with
        | none => rw [hr] at h; cases h
        | some q =>
          obtain ⟨xs', r3⟩ := q
          rw [hr] at h
          cases h
          obtain ⟨a1, -, a3⟩ := rest_ok n r2 xs' r hr
          refine ⟨fun y hy => ?_, by simp, by omega⟩
          rcases List.mem_cons.1 hy with rfl | hy
          · exact part_ok hp
          · exact a1 y hy
theorem eq_nil (t : Bs) : (t == ([] : Bs)) = t.isEmpty := by cases t <;> rfl
theorem prog_fin {x : Lvl × Int} {xs : List (Lvl × Int)} (hx : ∀ y ∈ x :: xs, PartOK y) (r : Bs) :
    (Option.bind (cond false (some true) (some (!((r.dropWhile (· == 32)) == ([] : Bs))))) fun v8 => cond v8 (some ((⟨0, []⟩ : Lvl), (4 : Int))) (cond (firstE 0 (x :: xs) != 0) (some ((⟨0, []⟩ : Lvl), firstE 0 (x :: xs))) (Option.bind (m56f6 (foldC 0 (x :: xs)) (foldM imNil (x :: xs))) fun x11 => some ((⟨x11.2.1, x11.2.2⟩ : Lvl), x11.1)))) =
    some (if sp r = [] then (if firstE 0 (x :: xs) = 0 then (joinsL x.1 xs, 0) else (⟨0, []⟩, firstE 0 (x :: xs))) else (⟨0, []⟩, 4)) := by
  rw [cond_false, Option.bind_some]
  have e0 : (r.dropWhile (· == 32)) = sp r := rfl
  rw [e0, eq_nil]
  cases h : sp r with
  | cons a b => rfl
  | nil =>
    rw [show (!(([] : Bs)).isEmpty) = false from rfl, cond_false, if_pos rfl]
    by_cases he : firstE 0 (x :: xs) = 0
    · rw [if_pos he, show (firstE 0 (x :: xs) != 0) = false by simp [he], cond_false]
      obtain ⟨vs, b1, b2, b3, b4, b5⟩ := sum_all hx
      rw [m56_eq b1 b2 b3 b4, b5]
      rfl
    · rw [if_neg he, show (firstE 0 (x :: xs) != 0) = true by simp [he], cond_true]
theorem m54_pre (p s : Bs) (bad : Bool) (e C : Int) (M : IMap) : m54f1 p s bad e C M = some (Lib.trimPrefix s p) := by
  unfold m54f1 Lib.trimPrefix
  cases Lib.hasPrefix s p <;> rfl
theorem m26_eq {s : Bs} (hs : s.length ≤ 600) : m26 s = some (resP s) := by
  unfold m26 resP parseP m53f0
  rw [decide_eq_false (by omega : ¬ (65536 : Int) < s.length), cond_false]
  simp only [Option.bind_some]
  rw [m54_pre, Option.bind_some]
  have e0 : (s.dropWhile (· == 32)) = sp s := rfl
  rw [e0]
  have l0 := sp_len s
  cases hp : Lib.hasPrefix (sp s) [109, 97, 120] with
  | true =>
    rw [if_pos rfl, cond_true, m54_eq, Option.bind_some]
    have e1 : Lib.trimPrefix (sp s) [109, 97, 120] = (sp s).drop 3 := by unfold Lib.trimPrefix; rw [hp, if_pos rfl]; rfl
    rw [e1]
    have e2 : (((sp s).drop 3).dropWhile (· == 32)) = sp ((sp s).drop 3) := rfl
    rw [e2, (tkc_pre 40 _).1]
    have l1 := sp_len ((sp s).drop 3)
    rw [List.length_drop] at l1
    cases h40 : tkc 40 (sp ((sp s).drop 3)) with
    | none =>
      simp only [Option.isSome_none, Bool.not_false]
      have : loopN m26_l0 FUEL (true, imNil, 0, (none : Option Bs).getD (sp ((sp s).drop 3)), true, 0) = some (imNil, 0, (none : Option Bs).getD (sp ((sp s).drop 3)), true, 0) := by
        unfold FUEL
        rw [loopN]
        rfl
      rw [this, Option.bind_some]
      dsimp only
      rw [m54_eq, Option.bind_some, (tkc_pre 41 _).1]
      cases tkc 41 ((none : Option Bs).getD (sp ((sp s).drop 3))) <;> rfl
    | some t =>
      have l2 := congrArg List.length (tkc_some h40)
      rw [List.length_cons] at l2
      simp only [Option.isSome_some, Bool.not_true, Option.getD_some]
      obtain ⟨o, ho, ho'⟩ := prog_loop (s.length + 1) t imNil 0 0 FUEL (by omega) (by omega) (by unfold FUEL; omega)
      rw [ho, Option.bind_some]
      cases hr : restP (s.length + 1) t with
      | none =>
        rw [hr] at ho'
        have hb : o.2.2.2.1 = true := ho'
        rw [m54_eq, Option.bind_some, (tkc_pre 41 _).1, hb]
        cases tkc 41 o.2.2.1 <;> rfl
      | some q =>
        obtain ⟨xs, r⟩ := q
        rw [hr] at ho'
        dsimp only at ho' ⊢
        subst ho'
        dsimp only
        rw [m54_eq, Option.bind_some, (tkc_pre 41 _).1]
        obtain ⟨a1, a2, a3⟩ := rest_ok _ _ _ _ hr
        cases h41 : tkc 41 r with
        | none => rfl
        | some r2 =>
          simp only [Option.isSome_some, Bool.not_true, cond_false, Option.bind_some, Option.getD_some]
          cases xs with
          | nil => exact absurd rfl a2
          | cons x xs =>
            have := prog_fin a1 r2
            simp only [cond_false, Option.bind_some] at this
            rw [this]
            by_cases h : sp r2 = []
            · rw [if_pos h, if_pos h]
            · rw [if_neg h, if_neg h]
  | false =>
    rw [if_neg Bool.false_ne_true, cond_false]
    have e1 : Lib.trimPrefix (sp s) [109, 97, 120] = sp s := by unfold Lib.trimPrefix; rw [hp, if_neg Bool.false_ne_true]
    rw [e1]
    obtain ⟨x, hx, hx'⟩ := m55_eq (t := sp s) (by omega) 0 0 imNil
    rw [hx]
    simp only [Option.bind_some]
    cases hq : partP (sp s) with
    | none =>
      rw [hq] at hx'
      have hb : x.2.1 = true := hx'
      rw [hb]; rfl
    | some q =>
      obtain ⟨L, r⟩ := q
      rw [hq] at hx'
      dsimp only at hx' ⊢
      subst hx'
      dsimp only
      refine Eq.trans (prog_fin (x := L) (xs := []) (fun y hy => by simp at hy; subst hy; exact part_ok hq) r) ?_
      by_cases h : sp r = []
      · rw [if_pos h, if_pos h]
      · rw [if_neg h, if_neg h]
end Go.Proofs.YtcapifnaceegmaaGreatDoor
namespace Go.Proofs.YtcapifnaceegmaaGreatDoor
open Go.RowKit
set_option linter.unusedSimpArgs false
set_option linter.unusedVariables false
theorem anti {A B : Lvl} (ha : validB A = true) (hb : validB B = true) (h : leL A B) (k : leL B A) : A = B := by
  have wa := (wf_valid ha).1; have wb := (wf_valid hb).1
  have ev : A.vs = B.vs := by
    refine asc_ext wa wb fun i => ?_
    cases hA : getV A.vs i with
    | none =>
      cases hB : getV B.vs i with
      | none => rfl
      | some q =>
        obtain ⟨y, hy, e, -⟩ := k.2 _ ((getV_mem wb).1 hB)
        have := getV_of_mem wa hy
        rw [e] at this
        rw [this] at hA; cases hA
    | some p =>
      obtain ⟨y, hy, e, hp⟩ := h.2 _ ((getV_mem wa).1 hA)
      have h1 := getV_of_mem wb hy
      obtain ⟨z, hz, e2, hq⟩ := k.2 y hy
      have h2 := getV_of_mem wa hz
      dsimp only at e hp
      rw [e2, e, hA] at h2
      rw [e] at h1
      rw [h1]
      have : p = z.2 := by injection h2
      exact congrArg some (by omega)
  have et : topL A = topL B := Int.le_antisymm h.top k.top
  have nc : ∀ {L : Lvl}, validB L = true → 0 < L.c → ∀ x ∈ L.vs, x.2 < L.c := fun {L} hv hc x hx => by
    have := ((valid_parts L).1 hv).2.2.1 hc
    refine Int.not_le.1 fun hn => ?_
    rw [cov_mem.2 ⟨x, hx, hn⟩] at this; cases this
  have ec : A.c = B.c := by
    have a0 := (valid_c ha).1; have b0 := (valid_c hb).1
    have tA : 0 < A.c → topL A = A.c := fun hc => Int.le_antisymm (topL_le.2 ⟨Int.le_refl _, fun x hx => by have := nc ha hc x hx; omega⟩) (top_ge _ _)
    have tB : 0 < B.c → topL B = B.c := fun hc => Int.le_antisymm (topL_le.2 ⟨Int.le_refl _, fun x hx => by have := nc hb hc x hx; omega⟩) (top_ge _ _)
    by_cases h1 : 0 < A.c
    · by_cases h2 : 0 < B.c
      · have := tA h1; have := tB h2; omega
      · exfalso
        have e1 := tA h1
        have : topL B ≤ A.c - 1 := topL_le.2 ⟨by omega, fun x hx => by have := nc ha h1 x (by rw [ev]; exact hx); omega⟩
        omega
    · by_cases h2 : 0 < B.c
      · exfalso
        have e1 := tB h2
        have : topL A ≤ B.c - 1 := topL_le.2 ⟨by omega, fun x hx => by have := nc hb h2 x (by rw [← ev]; exact hx); omega⟩
        omega
      · omega
  cases A; cases B
  dsimp only at ev ec
  rw [ev, ec]
abbrev dec (n : Nat) : Bs := Lib.decDigits n
theorem dec_lt {n : Nat} (h : n < 10) : dec n = [UInt8.ofNat (48 + n)] := by unfold dec Lib.decDigits; rw [dif_pos h]
theorem dec_ge {n : Nat} (h : ¬ n < 10) : dec n = dec (n / 10) ++ [UInt8.ofNat (48 + n % 10)] := by
  show Lib.decDigits n = _
  rw [Lib.decDigits, dif_neg h]
theorem dig_nat {k : Nat} (h : k < 10) : (UInt8.ofNat (48 + k)).toNat = 48 + k := by
  rw [UInt8.toNat_ofNat']; omega
theorem dec_isD : ∀ (n : Nat), ∀ b ∈ dec n, isD b = true := by
  intro n
  induction n using Nat.strongRecOn with
  | ind n ih =>
    intro b hb
    by_cases h : n < 10
    · rw [dec_lt h, List.mem_singleton] at hb
      subst hb
      unfold isD; rw [dig_nat h]
      simp; omega
    · rw [dec_ge h, List.mem_append, List.mem_singleton] at hb
      rcases hb with hb | rfl
      · exact ih _ (by omega) b hb
      · unfold isD; rw [dig_nat (by omega)]
        simp; omega
theorem dec_num (n : Nat) : numV (dec n) = n := by
  induction n using Nat.strongRecOn with
  | ind n ih =>
    by_cases h : n < 10
    · rw [dec_lt h]; unfold numV; simp only [List.foldl_cons, List.foldl_nil]; rw [dig_nat h]; omega
    · rw [dec_ge h, numV_snoc, ih _ (by omega), dig_nat (by omega)]; omega
theorem dec_len : ∀ (k n : Nat), n < 10 ^ (k + 1) → (dec n).length ≤ k + 1
  | 0, n, h => by rw [dec_lt (by omega)]; exact Nat.le_refl _
  | k + 1, n, h => by
    by_cases h1 : n < 10
    · rw [dec_lt h1]; exact Nat.succ_le_succ (Nat.zero_le _)
    · rw [dec_ge h1, List.length_append]
      have := dec_len k (n / 10) (by rw [Nat.pow_succ] at h; omega)
      simp; omega
theorem dec_pos (n : Nat) : 0 < (dec n).length := by
  by_cases h : n < 10
  · rw [dec_lt h]; exact Nat.zero_lt_one
  · rw [dec_ge h, List.length_append]; simp
theorem dec_head {n : Nat} (h : 0 < n) : (dec n).head? ≠ some 48 := by
  induction n using Nat.strongRecOn with
  | ind n ih =>
    by_cases h1 : n < 10
    · rw [dec_lt h1]
      intro e
      have e2 : UInt8.ofNat (48 + n) = 48 := by simpa using e
      have := congrArg UInt8.toNat e2
      rw [dig_nat h1] at this
      have h48 : (48 : UInt8).toNat = 48 := rfl
      omega
    · rw [dec_ge h1]
      have hp := dec_pos (n / 10)
      have e : (dec (n / 10) ++ [UInt8.ofNat (48 + n % 10)]).head? = (dec (n / 10)).head? := by
        cases hd : dec (n / 10) with
        | nil => rw [hd] at hp; cases hp
        | cons b t => rfl
      rw [e]
      exact ih _ (by omega) (by omega)
theorem dec_bad {n : Nat} (h : n < 1000000) : badD (dec n) = false := by
  unfold badD
  have h1 := dec_pos n
  have h2 := dec_len 5 n (by omega)
  rw [decide_eq_false (by omega), decide_eq_false (by omega)]
  by_cases h3 : n < 10
  · rw [dec_lt h3]; rfl
  · have := dec_head (n := n) (by omega)
    simp only [Bool.false_or, Bool.and_eq_false_iff]
    exact .inr (by rw [beq_eq_false_iff_ne]; exact this)
def Stop (r : Bs) : Prop := ∀ b, r.head? = some b → isD b = false
theorem dig_app {n : Nat} {r : Bs} (h : Stop r) : dig (dec n ++ r) = dec n := by
  unfold dig
  rw [List.takeWhile_append_of_pos (dec_isD n)]
  cases r with
  | nil => simp
  | cons b r =>
    rw [List.takeWhile_cons, if_neg (by rw [h b rfl]; exact Bool.false_ne_true), List.append_nil]
theorem num_app {n : Nat} {r : Bs} (hn : n < 1000000) (h : Stop r) : numP (dec n ++ r) = some (n, r) := by
  unfold numP
  rw [dig_app h, dec_bad hn, dec_num, List.drop_left]
  rfl
theorem dec_cons (n : Nat) : ∃ b t, dec n = b :: t ∧ isD b = true := by
  have h := dec_pos n
  cases hd : dec n with
  | nil => rw [hd] at h; cases h
  | cons b t => exact ⟨b, t, rfl, dec_isD n b (by rw [hd]; exact List.mem_cons_self)⟩
def plusT (p : Int) : Bs := if 0 < p then [32, 43, 32] ++ dec p.toNat else []
def varT (c : UInt8) (n : Nat) (p : Int) : Bs := c :: (dec n ++ plusT p)
def varX (x : LV) : Bs := if 0 ≤ x.1 then varT 117 x.1.toNat x.2 else varT 63 (-1 - x.1).toNat x.2
def End (r : Bs) : Prop := r = [] ∨ ∃ b t, r = b :: t ∧ (b = 44 ∨ b = 41)
theorem End.stop {r : Bs} (h : End r) : Stop r := by
  rcases h with rfl | ⟨b, t, rfl, rfl | rfl⟩
  · intro b h; cases h
  · intro b h; cases h; rfl
  · intro b h; cases h; rfl
theorem End.sp {r : Bs} (h : End r) : sp r = r := by
  rcases h with rfl | ⟨b, t, rfl, rfl | rfl⟩ <;> rfl
theorem End.no {r : Bs} (h : End r) : tkc 43 r = none := by
  rcases h with rfl | ⟨b, t, rfl, rfl | rfl⟩ <;> rfl
theorem isD_ne {b : UInt8} (h : isD b = true) : b ≠ 32 ∧ b ≠ 117 ∧ b ≠ 63 ∧ b ≠ 109 := by
  refine ⟨?_, ?_, ?_, ?_⟩ <;> (intro e; subst e; revert h; decide)
theorem sp_cons {b : UInt8} {t : Bs} (h : b ≠ 32) : sp (b :: t) = b :: t := by
  unfold sp; rw [List.dropWhile_cons, if_neg (by simpa using h)]
theorem go_app {neg : Bool} {n : Nat} {p : Int} {r : Bs} (hn : n < 1000000) (h0 : 0 ≤ p) (hp : p ≤ 100) (h : End r) : goP neg (dec n ++ (plusT p ++ r)) = some (varR (if neg then -1 - (n : Int) else n) p, r) := by
  unfold goP plusT
  by_cases h1 : 0 < p
  · rw [if_pos h1]
    have st : Stop ([32, 43, 32] ++ dec p.toNat ++ r) := by intro b hb; cases hb; rfl
    rw [num_app hn st]
    dsimp only
    have e1 : sp ([32, 43, 32] ++ dec p.toNat ++ r) = 43 :: 32 :: (dec p.toNat ++ r) := rfl
    have e2 : tkc 43 (43 :: 32 :: (dec p.toNat ++ r)) = some (32 :: (dec p.toNat ++ r)) := rfl
    have e3 : sp (32 :: (dec p.toNat ++ r)) = dec p.toNat ++ r := by
      obtain ⟨b, t, hd, hb⟩ := dec_cons p.toNat
      rw [hd, List.cons_append]
      have : sp (32 :: b :: (t ++ r)) = sp (b :: (t ++ r)) := rfl
      rw [this, sp_cons (isD_ne hb).1]
    rw [e1, e2]
    dsimp only
    rw [e3, num_app (by omega) h.stop]
    dsimp only
    rw [Int.toNat_of_nonneg h0]
  · rw [if_neg h1, List.nil_append, num_app hn h.stop]
    dsimp only
    rw [h.sp, h.no]
    dsimp only
    have : p = 0 := by omega
    rw [this]
theorem varR_in {i p : Int} (h : okV (i, p)) : varR i p = (⟨0, [(i, p)]⟩, 0) := by
  obtain ⟨h1, h2, h3, h4⟩ := h
  dsimp only at h1 h2 h3 h4
  unfold varR; rw [if_neg (by omega), if_neg (by omega)]
theorem ofR_in {n : Int} (h0 : 0 ≤ n) (h : n ≤ 100) : ofR n = (⟨n, []⟩, 0) := by unfold ofR; rw [if_neg (by omega), if_neg (by omega)]
inductive It where
  | c (n : Nat)
  | v (x : LV)
def It.ok : It → Prop
  | .c n => n ≤ 100
  | .v x => okV x
def It.text : It → Bs
  | .c n => dec n
  | .v x => varX x
def It.lvl : It → Lvl
  | .c n => ⟨n, []⟩
  | .v x => ⟨0, [x]⟩
theorem It.head (i : It) : ∃ b t, i.text = b :: t ∧ b ≠ 32 ∧ b ≠ 109 := by
  cases i with
  | c n => obtain ⟨b, t, h, hb⟩ := dec_cons n; exact ⟨b, t, h, (isD_ne hb).1, (isD_ne hb).2.2.2⟩
  | v x =>
    show ∃ b t, varX x = b :: t ∧ _
    unfold varX varT
    split
    · exact ⟨_, _, rfl, by decide, by decide⟩
    · exact ⟨_, _, rfl, by decide, by decide⟩
theorem It.sp (i : It) (r : Bs) : Go.Proofs.YtcapifnaceegmaaGreatDoor.sp (i.text ++ r) = i.text ++ r := by
  obtain ⟨b, t, h, hb, -⟩ := i.head
  rw [h, List.cons_append, sp_cons hb]
theorem It.part {i : It} (hi : i.ok) {r : Bs} (h : End r) : partP (i.text ++ r) = some ((i.lvl, 0), r) := by
  cases i with
  | c n =>
    have hn : n ≤ 100 := hi
    obtain ⟨b, t, hd, hb⟩ := dec_cons n
    have e1 : tkc 117 (dec n ++ r) = none := by rw [hd]; exact if_neg (isD_ne hb).2.1
    have e2 : tkc 63 (dec n ++ r) = none := by rw [hd]; exact if_neg (isD_ne hb).2.2.1
    show partP (dec n ++ r) = _
    unfold partP
    rw [e1, e2, num_app (by omega) h.stop]
    dsimp only
    rw [ofR_in (by omega) (by omega)]
    rfl
  | v x =>
    have hx : okV x := hi
    obtain ⟨h1, h2, h3, h4⟩ := id hx
    show partP (varX x ++ r) = _
    unfold varX
    split
    · rename_i h0
      have e : varT 117 x.1.toNat x.2 ++ r = 117 :: (dec x.1.toNat ++ (plusT x.2 ++ r)) := by unfold varT; simp
      have e1 : tkc 117 (117 :: (dec x.1.toNat ++ (plusT x.2 ++ r))) = some (dec x.1.toNat ++ (plusT x.2 ++ r)) := rfl
      rw [e]; unfold partP; rw [e1]
      dsimp only
      rw [go_app (by omega) h3 h4 h]
      rw [if_neg Bool.false_ne_true, Int.toNat_of_nonneg h0, varR_in hx]
      rfl
    · rename_i h0
      have e : varT 63 (-1 - x.1).toNat x.2 ++ r = 63 :: (dec (-1 - x.1).toNat ++ (plusT x.2 ++ r)) := by unfold varT; simp
      have e0 : tkc 117 (63 :: (dec (-1 - x.1).toNat ++ (plusT x.2 ++ r))) = none := rfl
      have e1 : tkc 63 (63 :: (dec (-1 - x.1).toNat ++ (plusT x.2 ++ r))) = some (dec (-1 - x.1).toNat ++ (plusT x.2 ++ r)) := rfl
      rw [e]; unfold partP; rw [e0, e1]
      dsimp only
      rw [go_app (by omega) h3 h4 h]
      rw [if_pos rfl, Int.toNat_of_nonneg (by omega), show -1 - (-1 - x.1) = x.1 by omega, varR_in hx]
      rfl
def sepT : List Bs → Bs
  | [] => []
  | [x] => x
  | x :: y :: r => x ++ ([44, 32] ++ sepT (y :: r))
theorem rest_app : ∀ (xs : List It) (x : It) (n : Nat) (r : Bs), (∀ y ∈ x :: xs, y.ok) → xs.length < n → (∀ b, r.head? = some b → b = 41) →
    restP n (sepT ((x :: xs).map It.text) ++ r) = some ((x :: xs).map fun i => (i.lvl, 0), r)
  | [], x, 0, r, hok, hn, hr => absurd hn (Nat.not_lt_zero _)
  | [], x, n + 1, r, hok, hn, hr => by
    have he : End r := by
      cases r with
      | nil => exact .inl rfl
      | cons b t => exact .inr ⟨b, t, rfl, .inr (hr b rfl)⟩
    unfold restP
    show (match partP (sp (x.text ++ r)) with | none => none | some (x, r) => _) = _
    rw [It.sp, It.part (hok x List.mem_cons_self) he]
    dsimp only
    rw [he.sp]
    have : tkc 44 r = none := by
      cases r with
      | nil => rfl
      | cons b t => exact if_neg (by rw [hr b rfl]; decide)
    rw [this]
    rfl
  | y :: ys, x, 0, r, hok, hn, hr => absurd hn (Nat.not_lt_zero _)
  | y :: ys, x, n + 1, r, hok, hn, hr => by
    have e : sepT ((x :: y :: ys).map It.text) ++ r = x.text ++ (44 :: 32 :: (sepT ((y :: ys).map It.text) ++ r)) := by
      simp only [List.map_cons, sepT]; simp
    have ih := rest_app ys y n r (fun z hz => hok z (List.mem_cons_of_mem _ hz)) (by simp at hn; omega) hr
    have hsp : ∀ m t, restP m (32 :: t) = restP m t := fun m t => by
      cases m with
      | zero => rfl
      | succ m => unfold restP; rfl
    rw [e]
    unfold restP
    rw [It.sp, It.part (hok x List.mem_cons_self) (.inr ⟨44, _, rfl, .inl rfl⟩)]
    dsimp only
    have e2 : tkc 44 (sp (44 :: 32 :: (sepT ((y :: ys).map It.text) ++ r))) = some (32 :: (sepT ((y :: ys).map It.text) ++ r)) := rfl
    rw [e2]
    dsimp only
    rw [hsp, ih]
    rfl
def textOf (xs : List It) : Bs := match xs with
  | [x] => x.text
  | xs => [109, 97, 120, 40] ++ sepT (xs.map It.text) ++ [41]
theorem sepT_len : ∀ (xs : List It), xs.length ≤ (sepT (xs.map It.text)).length
  | [] => Nat.zero_le _
  | [x] => by obtain ⟨b, t, h, -⟩ := x.head; simp only [List.map_cons, List.map_nil, sepT]; rw [h]; simp
  | x :: y :: r => by
    have := sepT_len (y :: r)
    simp only [List.map_cons, sepT, List.length_append, List.length_cons, List.length_nil] at this ⊢
    omega
theorem parse_text (x : It) (xs : List It) (hok : ∀ y ∈ x :: xs, y.ok) : parseP (textOf (x :: xs)) = some ((x :: xs).map fun i => (i.lvl, 0)) := by
  cases xs with
  | nil =>
    show parseP x.text = _
    obtain ⟨b, t, h, hb, hm⟩ := x.head
    have hs : sp x.text = x.text := by have := It.sp x []; rwa [List.append_nil] at this
    have hp : Lib.hasPrefix (sp x.text) [109, 97, 120] = false := by
      rw [hs, h]
      unfold Lib.hasPrefix
      simp [List.isPrefixOf]
      intro e; exact absurd e.symm hm
    unfold parseP
    rw [hp, if_neg Bool.false_ne_true, hs]
    have := It.part (hok x List.mem_cons_self) (r := []) (.inl rfl)
    rw [List.append_nil] at this
    rw [this]
    rfl
  | cons y ys =>
    have e : textOf (x :: y :: ys) = 109 :: 97 :: 120 :: 40 :: (sepT ((x :: y :: ys).map It.text) ++ [41]) := by simp [textOf]
    have hr := rest_app (y :: ys) x ((textOf (x :: y :: ys)).length + 1) [41] hok (by
      have := sepT_len (x :: y :: ys)
      rw [e]; simp only [List.length_cons, List.length_append, List.length_nil] at this ⊢
      omega) (fun b hb => by cases hb; rfl)
    unfold parseP
    generalize hL : (textOf (x :: y :: ys)).length + 1 = L at hr
    rw [e]
    have e1 : sp (109 :: 97 :: 120 :: 40 :: (sepT ((x :: y :: ys).map It.text) ++ [41])) = 109 :: 97 :: 120 :: 40 :: (sepT ((x :: y :: ys).map It.text) ++ [41]) := rfl
    rw [e1]
    have e2 : Lib.hasPrefix (109 :: 97 :: 120 :: 40 :: (sepT ((x :: y :: ys).map It.text) ++ [41])) [109, 97, 120] = true := by
      unfold Lib.hasPrefix; simp [List.isPrefixOf]
    rw [e2, if_pos rfl]
    have e3 : tkc 40 (sp ((109 :: 97 :: 120 :: 40 :: (sepT ((x :: y :: ys).map It.text) ++ [41])).drop 3)) = some (sepT ((x :: y :: ys).map It.text) ++ [41]) := rfl
    rw [e3]
    dsimp only
    rw [hr]
    rfl
def itemsOf (l : Lvl) : List It :=
  (if 0 < l.c ∨ l.vs = [] then [.c l.c.toNat] else []) ++ (l.vs.filter fun x => decide (0 ≤ x.1)).map .v ++ (l.vs.reverse.filter fun x => decide (x.1 < 0)).map .v
def textL (l : Lvl) : Bs := textOf (itemsOf l)
theorem It.valid {i : It} (h : i.ok) : validB i.lvl = true := by
  cases i with
  | c n =>
    have hn : n ≤ 100 := h
    refine valid_true (show (0 : Int) ≤ n by omega) (show (n : Int) ≤ 100 by omega) (fun _ => rfl) (fun k hk => absurd hk (Nat.not_lt_zero _))
  | v x =>
    obtain ⟨h1, h2, h3, h4⟩ : okV x := h
    show validB ⟨0, [x]⟩ = true
    unfold validB
    simp [okVar, ascB, h1, h2, h3, h4]
theorem joins_valid : ∀ (xs : List It) (o : Lvl), validB o = true → (∀ i ∈ xs, i.ok) → validB (joinsL o (xs.map fun i => (i.lvl, 0))) = true
  | [], o, ho, h => ho
  | x :: xs, o, ho, h => joins_valid xs _ (join_valid ho (It.valid (h x List.mem_cons_self))) fun i hi => h i (List.mem_cons_of_mem _ hi)
theorem joins_le : ∀ (xs : List It) (o C : Lvl), validB o = true → (∀ i ∈ xs, i.ok) → (leL (joinsL o (xs.map fun i => (i.lvl, 0))) C ↔ leL o C ∧ ∀ i ∈ xs, leL i.lvl C)
  | [], o, C, ho, h => ⟨fun k => ⟨k, fun i hi => by cases hi⟩, fun k => k.1⟩
  | x :: xs, o, C, ho, h => by
    have hx := It.valid (h x List.mem_cons_self)
    have := joins_le xs (joinL o x.lvl) C (join_valid ho hx) fun i hi => h i (List.mem_cons_of_mem _ hi)
    show leL (joinsL (joinL o x.lvl) (xs.map fun i => (i.lvl, 0))) C ↔ _
    rw [this, join_le (good_valid ho) (good_valid hx)]
    simp only [List.mem_cons, forall_eq_or_imp]
    exact and_assoc
theorem first_ok (xs : List It) : firstE 0 (xs.map fun i => (i.lvl, 0)) = 0 := by
  unfold firstE
  induction xs with
  | nil => rfl
  | cons x xs ih => simpa using ih
theorem items_ok {l : Lvl} (h : validB l = true) : ∀ i ∈ itemsOf l, i.ok := by
  intro i hi
  unfold itemsOf at hi
  have hc := valid_c h
  simp only [List.mem_append, List.mem_map, List.mem_filter] at hi
  rcases hi with (hi | ⟨x, ⟨hx, -⟩, rfl⟩) | ⟨x, ⟨hx, -⟩, rfl⟩
  · split at hi
    · rw [List.mem_singleton] at hi; subst hi
      show l.c.toNat ≤ 100; omega
    · cases hi
  · exact okV_valid h hx
  · exact okV_valid h (List.mem_reverse.1 hx)
theorem items_var {l : Lvl} {x : LV} (hx : x ∈ l.vs) : It.v x ∈ itemsOf l := by
  unfold itemsOf
  simp only [List.mem_append, List.mem_map, List.mem_filter]
  by_cases h0 : 0 ≤ x.1
  · exact .inl (.inr ⟨x, ⟨hx, by simpa using h0⟩, rfl⟩)
  · exact .inr ⟨x, ⟨List.mem_reverse.2 hx, by simpa using h0⟩, rfl⟩
theorem items_le {l : Lvl} (h : validB l = true) : ∀ i ∈ itemsOf l, leL i.lvl l := by
  intro i hi
  unfold itemsOf at hi
  have hc := valid_c h
  simp only [List.mem_append, List.mem_map, List.mem_filter] at hi
  have hv : ∀ x ∈ l.vs, leL (It.v x).lvl l := fun x hx => ⟨Int.le_trans hc.1 (top_ge _ _), fun y hy => by
    rw [show (It.v x).lvl.vs = [x] from rfl, List.mem_singleton] at hy; subst hy; exact ⟨y, hx, rfl, Int.le_refl _⟩⟩
  rcases hi with (hi | ⟨x, ⟨hx, -⟩, rfl⟩) | ⟨x, ⟨hx, -⟩, rfl⟩
  · split at hi
    · rw [List.mem_singleton] at hi; subst hi
      refine ⟨?_, fun y hy => by cases hy⟩
      show ((l.c.toNat : Nat) : Int) ≤ _
      rw [Int.toNat_of_nonneg hc.1]; exact top_ge _ _
    · cases hi
  · exact hv x hx
  · exact hv x (List.mem_reverse.1 hx)
theorem le_items {l J : Lvl} (h : validB l = true) (hJ : validB J = true) (k : ∀ i ∈ itemsOf l, leL i.lvl J) : leL l J := by
  refine ⟨?_, fun x hx => (k _ (items_var hx)).2 x (List.mem_singleton.2 rfl)⟩
  by_cases h0 : 0 < l.c
  · have := (k (.c l.c.toNat) (by unfold itemsOf; rw [if_pos (.inl h0)]; simp)).1
    have e : (It.c l.c.toNat).lvl.c = l.c := Int.toNat_of_nonneg (valid_c h).1
    rwa [e] at this
  · have := top_ge J.c J.vs
    have := (valid_c hJ).1
    unfold topL; omega
theorem items_ne (l : Lvl) : itemsOf l ≠ [] := by
  intro e
  by_cases h : l.vs = []
  · unfold itemsOf at e; rw [if_pos (.inr h)] at e; cases e
  · obtain ⟨x, r, hx⟩ := List.exists_cons_of_ne_nil h
    have := items_var (l := l) (x := x) (by rw [hx]; exact List.mem_cons_self)
    rw [e] at this; cases this
theorem res_text {l : Lvl} (h : validB l = true) : resP (textL l) = (l, 0) := by
  obtain ⟨x, xs, e⟩ := List.exists_cons_of_ne_nil (items_ne l)
  have hok := items_ok h
  have hle := items_le h
  have hge := fun J hJ => le_items (J := J) h hJ
  unfold textL
  rw [e] at hok hle hge ⊢
  unfold resP
  rw [parse_text x xs hok]
  show (if firstE 0 ((x :: xs).map fun i => (i.lvl, 0)) = 0 then _ else _) = _
  rw [first_ok, if_pos rfl]
  have hx := It.valid (hok x List.mem_cons_self)
  have hxs : ∀ i ∈ xs, i.ok := fun i hi => hok i (List.mem_cons_of_mem _ hi)
  have hJ := joins_valid xs x.lvl hx hxs
  have : joinsL x.lvl (xs.map fun i => (i.lvl, 0)) = l := anti hJ h
    ((joins_le xs x.lvl l hx hxs).2 ⟨hle x List.mem_cons_self, fun i hi => hle i (List.mem_cons_of_mem _ hi)⟩)
    (hge _ hJ fun i hi => by
      have := (joins_le xs x.lvl _ hx hxs).1 (leL.refl _)
      rcases List.mem_cons.1 hi with rfl | hi
      · exact this.1
      · exact this.2 i hi)
  exact congrArg (·, 0) this
end Go.Proofs.YtcapifnaceegmaaGreatDoor
namespace Go.Proofs.YtcapifnaceegmaaGreatDoor
open Go.RowKit Go.Shelf
set_option linter.unusedSimpArgs false
set_option linter.unusedVariables false
set_option linter.unusedSectionVars false
theorem Tryz.laysM171 : Go.Proofs.LaysM.n171 Tryz.prog Tryz.lays171_ren := { Tryz.lays171 with
  i0 := by kernel_rfl
  i2 := by kernel_rfl
  i3 := by kernel_rfl
  i4 := by kernel_rfl
  i5 := by kernel_rfl
  i9 := by kernel_rfl
  i20 := by kernel_rfl
  i37 := by kernel_rfl
  i46 := by kernel_rfl
  i51 := by kernel_rfl
  i53 := by kernel_rfl
  i171 := by kernel_rfl
  i173 := by kernel_rfl
  i212 := by kernel_rfl
  i232 := by kernel_rfl
  i233 := by kernel_rfl
  m17 := by kernel_rfl
  m18 := by kernel_rfl
  m19 := by kernel_rfl }
set_option maxRecDepth 100000 in
theorem itoaT_fun (n : Int) (h : (cond (decide (-9223372036854775808 ≤ n)) (decide (n ≤ 9223372036854775807)) false) = true) : Fun Tryz.prog 63 [.one (.d (.v (.int .i64 n)))] (TS (Lib.itoa n)) := by
  have h0 : -9223372036854775808 ≤ n := of_decide_eq_true (cond_left h)
  have h1 : n ≤ 9223372036854775807 := of_decide_eq_true (cond_right h)
  refine ⟨enters_of Tryz.func63 (by kernel_rfl) rfl, fun S w vs hS hT hargs => ?_⟩
  obtain ⟨u0, hu0, r0⟩ := hargs.2 0 _ rfl
  have e0 : u0 = .int .i64 n := by cases r0; rfl
  subst e0
  have hvs : vs = #[.int .i64 n] := by
    apply Array.ext_getElem?
    intro k
    match k with
    | 0 => rw [hu0]; rfl
    | k + 1 => rw [Array.getElem?_eq_none (by rw [hargs.1]; simp)]; simp
  rw [hvs]
  refine Calls.mono (Any.strconv_Itoa Tryz.laysM171 n h0 h1 w hT.is) ?_
  rintro e w' ⟨rfl, k, os, rfl⟩
  have hx : ExtF w (Go.Sort.grow (w.drewN k) os) := ⟨rfl, rfl, rfl, (by simp [Go.Sort.grow, World.drewN]), fun k hk _ => by simp [Go.Sort.grow, World.drewN, Array.getElem?_append_left hk]⟩
  exact ⟨_, S, rfl, hx, fun _ _ h => h, fun b o h => ⟨.inl h, Nat.lt_of_lt_of_le (hS b o h) hx.size⟩, rel_of rfl⟩
end Go.Proofs.YtcapifnaceegmaaGreatDoor
namespace Go.Proofs.YtcapifnaceegmaaGreatDoor
open Go.RowKit Go.Shelf
set_option linter.unusedSimpArgs false
set_option linter.unusedVariables false
theorem ag_89 : tyAgg Tryz.prog 89 = some (false, 1) := by kernel_rfl
theorem sl_89 : tySlice Tryz.prog 89 = some (9, 1) := by kernel_rfl
theorem sl_119 : tySlice Tryz.prog 119 = some (5, 1) := by kernel_rfl
theorem z_5 : tyZero Tryz.prog 5 = some [.int .u8 0] := by kernel_rfl
theorem z_9 : tyZero Tryz.prog 9 = some [.string ByteArray.empty] := by kernel_rfl
theorem z_89 : tyZero Tryz.prog 89 = some [.slice none 0 0] := by kernel_rfl
theorem el_9 : tyElem Tryz.prog 9 = some (1, 16) := by kernel_rfl
theorem by_119 : tyBytes Tryz.prog 119 = true := by kernel_rfl
theorem en_32 : Enters Tryz.prog 32 := enters_of Tryz.func32 (by kernel_rfl) rfl
theorem en_33 : Enters Tryz.prog 33 := enters_of Tryz.func33 (by kernel_rfl) rfl
theorem en_64 : Enters Tryz.prog 64 := enters_of Tryz.func64 (by kernel_rfl) rfl
theorem en_65 : Enters Tryz.prog 65 := enters_of Tryz.func65 (by kernel_rfl) rfl
theorem en_67 : Enters Tryz.prog 67 := enters_of Tryz.func67 (by kernel_rfl) rfl
theorem en_68 : Enters Tryz.prog 68 := enters_of Tryz.func68 (by kernel_rfl) rfl
theorem en_88 : Enters Tryz.prog 88 := enters_of Tryz.func88 (by kernel_rfl) rfl
def m67s (rc : Int → Option (((List UInt8)))) (a0 : Int) : Option (((List UInt8))) :=
  cond (decide (a0 < 10))
    (some (([(⟨(IntKind.wrap .u8 (48 + (IntKind.wrap .u8 a0)))⟩ : Byt)]).map Byt.u8))
    (Option.bind (rc (w64 (Int.tdiv a0 10))) fun (x2 : ((List UInt8))) =>
  guardO (Nat.ble (x2.length + (([(⟨(IntKind.wrap .u8 (48 + (IntKind.wrap .u8 (Int.tmod a0 10))))⟩ : Byt)]).map Byt.u8).length) 1000000000)
  (some (x2 ++ (([(⟨(IntKind.wrap .u8 (48 + (IntKind.wrap .u8 (Int.tmod a0 10))))⟩ : Byt)]).map Byt.u8))))
def m67F (rc : Int → Option (((List UInt8)))) (u : Int) : Option (((List UInt8))) := m67s rc u
def m67 (a0 : Int) : Option (((List UInt8))) := recO m67F FUEL a0
set_option maxRecDepth 100000 in
set_option maxHeartbeats 8000000 in
theorem m67s_ok (rc : Int → Option (((List UInt8)))) (H : ∀ (a0 : Int) (r : ((List UInt8))), rc a0 = some r → Fun Tryz.prog 67 [.one (dI a0)] (resOf [.one (dS8 r)])) (a0 : Int) (r : ((List UInt8))) (h0 : m67s rc a0 = some r) : Fun Tryz.prog 67 [.one (dI a0)] (resOf [.one (dS8 r)]) := by
  unfold m67s at h0
  refine Fun.of_bodyM 9 20 Tryz.func67 rfl en_67 rfl (lb rfl) (fun S w => ?_)
  simp only [entry]
  refine XC.seq ?_
  refine XC.region ?_
  refine XL.rd rfl rfl (lb rfl) (RO.assign rfl) ?_
  refine XL.nil ?_
  refine XQ.seq ?_
  refine XC.seq ?_
  refine XC.seq ?_
  refine XC.region ?_
  refine XL.rd rfl rfl (lb rfl) (RO.move rfl) ?_
  refine XL.rd rfl rfl (lb rfl) (RO.binInt rfl rfl rfl) ?_
  refine XL.nil ?_
  refine XQ.seq ?_
  refine XC.cond (b := (decide (a0 < 10))) rfl (fun c1 => ?_) (fun c1 => ?_)
  ·
   replace h0 := condT c1 h0
   refine XC.seq ?_
   refine XC.region ?_
   refine XL.rd rfl rfl (lb rfl) (RO.move rfl) ?_
   refine XL.rd rfl rfl (lb rfl) (RO.conv2 ti_3 ti_5 rfl) ?_
   refine XL.rd rfl rfl (lb rfl) (RO.binInt rfl rfl rfl) ?_
   refine XL.put rfl rfl (lb rfl) (OpOK.lit1E (α := Byt) ((⟨(IntKind.wrap .u8 (48 + (IntKind.wrap .u8 a0)))⟩ : Byt)) sl_119 z_5 rfl rfl (lb rfl) (lb rfl) rfl rfl (.cons (.d _) .nil) rfl) ?_
   refine XL.rd rfl rfl (lb rfl) (RO.bytesS by_119 st_9 rfl (.app _ _)) ?_
   refine XL.rd rfl rfl (lb rfl) (RO.assign rfl) ?_
   refine XL.nil ?_
   refine XQ.seq ?_
   refine XC.ret ?_
   have e_ := Option.some.inj h0
   subst e_
   exact XQ.retF (fun _ _ h => h) rfl (RAs.tmp rfl .nil) (.cons (.one (.d _)) .nil)
  ·
   replace h0 := condF c1 h0
   refine XC.skip ?_
   refine XQ.seq ?_
   refine XC.seq ?_
   refine XC.anyRun [] [] mixed (by kernel_rfl) (by kernel_rfl) (by kernel_rfl) ?_
   refine RunA.rd rfl rfl rfl (OpOK.of_ro (RO.move rfl)) rfl ?_
   refine RunA.rd rfl rfl rfl (OpOK.of_ro (RO.binInt rfl rfl rfl)) rfl ?_
   refine bindK h0 (fun x2 hx2 h0 => ?_)
   refine RunA.rd rfl rfl rfl (OpOK.callFun (H (w64 (Int.tdiv a0 10)) x2 hx2) rfl (.cons (.one (.d _)) .nil)) rfl ?_
   refine RunA.rd rfl rfl rfl (OpOK.of_ro (RO.move rfl)) rfl ?_
   refine RunA.rd rfl rfl rfl (OpOK.of_ro (RO.binInt rfl rfl rfl)) rfl ?_
   refine RunA.rd rfl rfl rfl (OpOK.of_ro (RO.conv2 ti_3 ti_5 rfl)) rfl ?_
   refine RunA.rd rfl rfl rfl (OpOK.of_ro (RO.binInt rfl rfl rfl)) rfl ?_
   refine RunA.rd rfl rfl rfl (OpOK.data1E (α := Byt) ((⟨(IntKind.wrap .u8 (48 + (IntKind.wrap .u8 (Int.tmod a0 10))))⟩ : Byt)) sl_119 z_5 rfl rfl (lb rfl) rfl rfl (.cons (.d _) .nil) rfl) rfl ?_
   refine RunA.rd rfl rfl rfl (OpOK.of_ro (RO.bytesS by_119 st_9 rfl (.d _))) rfl ?_
   refine guardK h0 (fun g3 h0 => ?_)
   refine RunA.rd rfl rfl rfl (OpOK.of_ro (RO.addS rfl rfl g3)) rfl ?_
   refine RunA.rd rfl rfl rfl (OpOK.of_ro (RO.assign rfl)) rfl ?_
   refine RunA.nil ⟨?ex, _, _, rfl, ?_⟩
   case ex => exact trivial
   refine XQ.less (st' := ⟨[(2, .v (.one (dS8 (x2 ++ (([(⟨(IntKind.wrap .u8 (48 + (IntKind.wrap .u8 (Int.tmod a0 10))))⟩ : Byt)]).map Byt.u8)))))], [], [], 0, 20, []⟩) (stle (tR rfl tZ) hZ kZ rfl (Nat.zero_le _) rfl rfl rfl bZ rfl rfl) ?_
   refine XQ.seq ?_
   refine XC.ret ?_
   have e_ := Option.some.inj h0
   subst e_
   exact XQ.retF (fun _ _ h => h) rfl (RAs.tmp rfl .nil) (.cons (.one (.d _)) .nil)
theorem m67_all (n : Nat) (u : Int) (r : ((List UInt8))) (h0 : recO m67F n u = some r) : Fun Tryz.prog 67 [.one (dI u)] (resOf [.one (dS8 r)]) :=
  recO_ind (C := fun u r => Fun Tryz.prog 67 [.one (dI u)] (resOf [.one (dS8 r)])) (fun rc H u r h => m67s_ok rc (fun a0 r h => H a0 r h) u r h) n u r h0
theorem m67_ok (a0 : Int) (r : ((List UInt8))) (h0 : m67 a0 = some r) : Fun Tryz.prog 67 [.one (dI a0)] (resOf [.one (dS8 r)]) := m67_all FUEL a0 r h0
def m68 (a0 : (List UInt8)) (a1 : Int) (a2 : Int) : Option (((List UInt8))) :=
  Option.bind (m67 a1) fun (x1 : ((List UInt8))) =>
  guardO (Nat.ble (a0.length + x1.length) 1000000000)
  (cond (decide (0 < a2))
    (Option.bind (m67 a2) fun (x4 : ((List UInt8))) =>
  guardO (Nat.ble (([32, 43, 32] : List UInt8).length + x4.length) 1000000000)
  (guardO (Nat.ble ((a0 ++ x1).length + (([32, 43, 32] : List UInt8) ++ x4).length) 1000000000)
  (some ((a0 ++ x1) ++ (([32, 43, 32] : List UInt8) ++ x4)))))
    (some (a0 ++ x1)))
set_option maxRecDepth 100000 in
set_option maxHeartbeats 8000000 in
theorem m68_ok (a0 : (List UInt8)) (a1 : Int) (a2 : Int) (r : ((List UInt8))) (h0 : m68 a0 a1 a2 = some r) : Fun Tryz.prog 68 [.one (dS8 a0), .one (dI a1), .one (dI a2)] (resOf [.one (dS8 r)]) := by
  unfold m68 at h0
  refine Fun.of_bodyM 9 20 Tryz.func68 rfl en_68 rfl (lb rfl) (fun S w => ?_)
  simp only [entry]
  refine XC.seq ?_
  refine XC.region ?_
  refine XL.rd rfl rfl (lb rfl) (RO.assign rfl) ?_
  refine XL.nil ?_
  refine XQ.seq ?_
  refine XC.seq ?_
  refine XC.region ?_
  refine XL.rd rfl rfl (lb rfl) (RO.move rfl) ?_
  refine XL.rd rfl rfl (lb rfl) (RO.move rfl) ?_
  refine bindK h0 (fun x1 hx1 h0 => ?_)
  refine XL.put rfl rfl (lb rfl) (OpOK.callFun (m67_ok a1 x1 hx1) rfl (.cons (.one (.d _)) .nil)) ?_
  refine guardK h0 (fun g2 h0 => ?_)
  refine XL.rd rfl rfl (lb rfl) (RO.addS rfl rfl g2) ?_
  refine XL.rd rfl rfl (lb rfl) (RO.assign rfl) ?_
  refine XL.nil ?_
  refine XQ.seq ?_
  refine XC.seq ?_
  refine XC.seq ?_
  refine XC.region ?_
  refine XL.rd rfl rfl (lb rfl) (RO.move rfl) ?_
  refine XL.rd rfl rfl (lb rfl) (RO.binInt rfl rfl rfl) ?_
  refine XL.nil ?_
  refine XQ.seq ?_
  refine XC.cond (b := (decide (0 < a2))) rfl (fun c3 => ?_) (fun c3 => ?_)
  ·
   replace h0 := condT c3 h0
   refine XC.region ?_
   refine XL.rd rfl rfl (lb rfl) (RO.move rfl) ?_
   refine XL.rd rfl rfl (lb rfl) (RO.move rfl) ?_
   refine bindK h0 (fun x4 hx4 h0 => ?_)
   refine XL.put rfl rfl (lb rfl) (OpOK.callFun (m67_ok a2 x4 hx4) rfl (.cons (.one (.d _)) .nil)) ?_
   refine guardK h0 (fun g5 h0 => ?_)
   refine XL.rd rfl rfl (lb rfl) (RO.addS rfl rfl g5) ?_
   refine guardK h0 (fun g6 h0 => ?_)
   refine XL.rd rfl rfl (lb rfl) (RO.addS rfl rfl g6) ?_
   refine XL.rd rfl rfl (lb rfl) (RO.assign rfl) ?_
   refine XL.nil ?_
   refine XQ.seq ?_
   refine XC.seq ?_
   refine XC.region ?_
   refine XL.rd rfl rfl (lb rfl) (RO.move rfl) ?_
   refine XL.rd rfl rfl (lb rfl) (RO.assign rfl) ?_
   refine XL.nil ?_
   refine XQ.seq ?_
   refine XC.ret ?_
   have e_ := Option.some.inj h0
   subst e_
   exact XQ.retF (fun _ _ h => h) rfl (RAs.tmp rfl .nil) (.cons (.one (.d _)) .nil)
  ·
   replace h0 := condF c3 h0
   refine XC.skip ?_
   refine XQ.seq ?_
   refine XC.seq ?_
   refine XC.region ?_
   refine XL.rd rfl rfl (lb rfl) (RO.move rfl) ?_
   refine XL.rd rfl rfl (lb rfl) (RO.assign rfl) ?_
   refine XL.nil ?_
   refine XQ.seq ?_
   refine XC.ret ?_
   have e_ := Option.some.inj h0
   subst e_
   exact XQ.retF (fun _ _ h => h) rfl (RAs.tmp rfl .nil) (.cons (.one (.d _)) .nil)
def m64 (a0 : (List UInt8)) (a1 : Int) (a2 : Int) : Option (((List UInt8))) :=
  guardO ((cond (decide (-9223372036854775808 ≤ a1)) (decide (a1 ≤ 9223372036854775807)) false))
  (guardO (Nat.ble (a0.length + (Lib.itoa a1).length) 1000000000)
  (cond (decide (0 < a2))
    (guardO ((cond (decide (-9223372036854775808 ≤ a2)) (decide (a2 ≤ 9223372036854775807)) false))
  (guardO (Nat.ble (([32, 43, 32] : List UInt8).length + (Lib.itoa a2).length) 1000000000)
  (guardO (Nat.ble ((a0 ++ (Lib.itoa a1)).length + (([32, 43, 32] : List UInt8) ++ (Lib.itoa a2)).length) 1000000000)
  (some ((a0 ++ (Lib.itoa a1)) ++ (([32, 43, 32] : List UInt8) ++ (Lib.itoa a2)))))))
    (some (a0 ++ (Lib.itoa a1)))))
set_option maxRecDepth 100000 in
set_option maxHeartbeats 8000000 in
theorem m64_ok (a0 : (List UInt8)) (a1 : Int) (a2 : Int) (r : ((List UInt8))) (h0 : m64 a0 a1 a2 = some r) : Fun Tryz.prog 64 [.one (dS8 a0), .one (dI a1), .one (dI a2)] (resOf [.one (dS8 r)]) := by
  unfold m64 at h0
  refine Fun.of_bodyM 9 20 Tryz.func64 rfl en_64 rfl (lb rfl) (fun S w => ?_)
  simp only [entry]
  refine XC.seq ?_
  refine XC.region ?_
  refine XL.rd rfl rfl (lb rfl) (RO.assign rfl) ?_
  refine XL.nil ?_
  refine XQ.seq ?_
  refine XC.seq ?_
  refine XC.region ?_
  refine XL.rd rfl rfl (lb rfl) (RO.move rfl) ?_
  refine XL.rd rfl rfl (lb rfl) (RO.move rfl) ?_
  refine guardK h0 (fun g1 h0 => ?_)
  refine XL.put rfl rfl (lb rfl) (OpOK.callFun (itoaT_fun a1 g1) rfl (.cons (.one (.d _)) .nil)) ?_
  refine guardK h0 (fun g2 h0 => ?_)
  refine XL.rd rfl rfl (lb rfl) (RO.addS rfl rfl g2) ?_
  refine XL.rd rfl rfl (lb rfl) (RO.assign rfl) ?_
  refine XL.nil ?_
  refine XQ.seq ?_
  refine XC.seq ?_
  refine XC.seq ?_
  refine XC.region ?_
  refine XL.rd rfl rfl (lb rfl) (RO.move rfl) ?_
  refine XL.rd rfl rfl (lb rfl) (RO.binInt rfl rfl rfl) ?_
  refine XL.nil ?_
  refine XQ.seq ?_
  refine XC.cond (b := (decide (0 < a2))) rfl (fun c3 => ?_) (fun c3 => ?_)
  ·
   replace h0 := condT c3 h0
   refine XC.region ?_
   refine XL.rd rfl rfl (lb rfl) (RO.move rfl) ?_
   refine XL.rd rfl rfl (lb rfl) (RO.move rfl) ?_
   refine guardK h0 (fun g4 h0 => ?_)
   refine XL.put rfl rfl (lb rfl) (OpOK.callFun (itoaT_fun a2 g4) rfl (.cons (.one (.d _)) .nil)) ?_
   refine guardK h0 (fun g5 h0 => ?_)
   refine XL.rd rfl rfl (lb rfl) (RO.addS rfl rfl g5) ?_
   refine guardK h0 (fun g6 h0 => ?_)
   refine XL.rd rfl rfl (lb rfl) (RO.addS rfl rfl g6) ?_
   refine XL.rd rfl rfl (lb rfl) (RO.assign rfl) ?_
   refine XL.nil ?_
   refine XQ.seq ?_
   refine XC.seq ?_
   refine XC.region ?_
   refine XL.rd rfl rfl (lb rfl) (RO.move rfl) ?_
   refine XL.rd rfl rfl (lb rfl) (RO.assign rfl) ?_
   refine XL.nil ?_
   refine XQ.seq ?_
   refine XC.ret ?_
   have e_ := Option.some.inj h0
   subst e_
   exact XQ.retF (fun _ _ h => h) rfl (RAs.tmp rfl .nil) (.cons (.one (.d _)) .nil)
  ·
   replace h0 := condF c3 h0
   refine XC.skip ?_
   refine XQ.seq ?_
   refine XC.seq ?_
   refine XC.region ?_
   refine XL.rd rfl rfl (lb rfl) (RO.move rfl) ?_
   refine XL.rd rfl rfl (lb rfl) (RO.assign rfl) ?_
   refine XL.nil ?_
   refine XQ.seq ?_
   refine XC.ret ?_
   have e_ := Option.some.inj h0
   subst e_
   exact XQ.retF (fun _ _ h => h) rfl (RAs.tmp rfl .nil) (.cons (.one (.d _)) .nil)
def m32_l0 (a0 : Lvl) (s1 : Int × (List ((List UInt8)))) : Option (LO (Int × (List ((List UInt8)))) (((List ((List UInt8)))))) :=
  cond (decide (s1.1 < (a0.vs.length : Int)))
    (Option.bind (idx a0.vs s1.1) fun (x7 : LV) =>
  cond (decide (0 ≤ x7.1))
    (Option.bind (m64 ([117] : List UInt8) x7.1 x7.2) fun (x9 : ((List UInt8))) =>
  guardO (Nat.ble (s1.2.length + ([x9]).length) 1000000000)
  (some (.next ((w64 (s1.1 + 1)), (s1.2 ++ ([x9]))))))
    (some (.next ((w64 (s1.1 + 1)), s1.2))))
    (some (.done s1.2))
noncomputable def m32_c0 : Code := (cA (cA (cB (cA (cB (cB (cB (cB (cB (bodyC Tryz.f32))))))))))
noncomputable def m32_c1 : Code := (cB (cA (cB (cA (cB (cB (cB (cB (cB (bodyC Tryz.f32))))))))))
def m32_l1 (a0 : Lvl) (s2 : Int × (List ((List UInt8)))) : Option (LO (Int × (List ((List UInt8)))) (((List ((List UInt8)))))) :=
  cond (decide (0 ≤ s2.1))
    (Option.bind (idx a0.vs s2.1) fun (x12 : LV) =>
  Option.bind (cond (decide (x12.1 < 0))
    (Option.bind (m64 ([63] : List UInt8) (w64 ((-1) - x12.1)) x12.2) fun (x17 : ((List UInt8))) =>
  guardO (Nat.ble (s2.2.length + ([x17]).length) 1000000000)
  (some (s2.2 ++ ([x17]))))
    (some s2.2)) (fun (y13 : (List ((List UInt8)))) => some (.next ((w64 (s2.1 - 1)), y13))))
    (some (.done s2.2))
def m32 (a0 : Lvl) : Option (((List UInt8)) × Int) :=
  guardO (Nat.ble a0.vs.length 100000)
  (cond (!(validB a0))
    (some (([] : List UInt8), 3))
    (Option.bind (cond (decide (0 < a0.c))
    (some true)
    (some ((a0.vs.length : Int) == 0))) (fun (v3 : Bool) => Option.bind (cond v3
    (guardO ((cond (decide (-9223372036854775808 ≤ a0.c)) (decide (a0.c ≤ 9223372036854775807)) false))
  (guardO (Nat.ble ([(Lib.itoa a0.c)]).length 1000000000)
  (some ([(Lib.itoa a0.c)]))))
    (some ([] : List ((List UInt8))))) (fun (v4 : (List ((List UInt8)))) => Option.bind (loopN (m32_l0 a0) FUEL (0, v4)) (fun (o5 : (List ((List UInt8)))) => Option.bind (some ()) (fun (y6 : Unit) => Option.bind (Option.bind (loopN (m32_l1 a0) FUEL ((w64 ((a0.vs.length : Int) - 1)), o5)) (fun (o10 : (List ((List UInt8)))) => some o10)) (fun (y8 : (List ((List UInt8)))) => cond ((y8.length : Int) == 1)
    (Option.bind (idx y8 0) fun (x21 : (List UInt8)) =>
  some (x21, 0))
    (guardO ((cond (Nat.ble y8.length 1000000) (Nat.ble (Lib.join y8 ([44, 32] : List UInt8)).length 1000000000) false))
  (guardO (Nat.ble (([109, 97, 120, 40] : List UInt8).length + (Lib.join y8 ([44, 32] : List UInt8)).length) 1000000000)
  (guardO (Nat.ble ((([109, 97, 120, 40] : List UInt8) ++ (Lib.join y8 ([44, 32] : List UInt8))).length + ([41] : List UInt8).length) 1000000000)
  (some (((([109, 97, 120, 40] : List UInt8) ++ (Lib.join y8 ([44, 32] : List UInt8))) ++ ([41] : List UInt8)), 0))))))))))))
set_option maxRecDepth 100000 in
set_option maxHeartbeats 8000000 in
theorem m32_ok (a0 : Lvl) (r : ((List UInt8)) × Int) (h0 : m32 a0 = some r) : Fun Tryz.prog 32 [.agg (cE a0)] (resOf [.one (dS8 r.1), .one (dI r.2)]) := by
  unfold m32 at h0
  refine Fun.of_bodyM 9 73 Tryz.func32 rfl en_32 rfl (lb rfl) (fun S w => ?_)
  simp only [entry]
  refine XC.seq ?_
  refine XC.region ?_
  refine XL.put rfl rfl (lb rfl) (OpOK.box rfl) ?_
  refine XL.rd rfl rfl (lb rfl) (RO.assign rfl) ?_
  refine XL.rd rfl rfl (lb rfl) (RO.assign rfl) ?_
  refine XL.nil ?_
  refine XQ.seq ?_
  refine XC.seq ?_
  refine XC.seq ?_
  refine XC.region ?_
  refine XL.rd rfl rfl (lb rfl) (RO.loadOwnAgg ag_24 rfl rfl rfl rfl) ?_
  refine guardK h0 (fun g1 h0 => ?_)
  refine XL.put rfl rfl (lb rfl) (OpOK.callFun (valid_fun a0 (Nat.le_of_ble_eq_true g1)) rfl (.cons (.agg (.cons (.d _) (.cons (.d _) .nil))) .nil)) ?_
  refine XL.rd rfl rfl (lb rfl) (RO.not rfl) ?_
  refine XL.nil ?_
  refine XQ.seq ?_
  refine XC.cond (b := (!(validB a0))) rfl (fun c2 => ?_) (fun c2 => ?_)
  ·
   replace h0 := condT c2 h0
   refine XC.seq ?_
   refine XC.region ?_
   refine XL.rd rfl rfl (lb rfl) (RO.assign rfl) ?_
   refine XL.rd rfl rfl (lb rfl) (RO.assign rfl) ?_
   refine XL.nil ?_
   refine XQ.seq ?_
   refine XC.ret ?_
   have e_ := Option.some.inj h0
   subst e_
   exact XQ.retF (fun _ _ h => h) rfl (RAs.tmp rfl (RAs.tmp rfl .nil)) (.cons (.one (.d _)) (.cons (.one (.d _)) .nil))
  ·
   replace h0 := condF c2 h0
   refine XC.skip ?_
   refine XQ.seq ?_
   refine XC.seq ?_
   refine XC.region ?_
   refine XL.put rfl rfl (lb rfl) (OpOK.alloc z_89 rfl) ?_
   refine XL.nil ?_
   refine XQ.seq ?_
   refine XC.seq ?_
   refine XC.seq ?_
   refine XC.joinR (fun (v3 : Bool) => ⟨[(1, .v (.one (.ptr 0 0))), (4, .v (.one (.ptr 1 0))), (20, .v (.one (dB v3)))], [(0, .cells 24 (cE a0)), (1, .cells 89 [dN])], [], 2, 73, []⟩) (fun (v3 : Bool) => (Option.bind (cond v3
       (guardO ((cond (decide (-9223372036854775808 ≤ a0.c)) (decide (a0.c ≤ 9223372036854775807)) false))
     (guardO (Nat.ble ([(Lib.itoa a0.c)]).length 1000000000)
     (some ([(Lib.itoa a0.c)]))))
       (some ([] : List ((List UInt8))))) (fun (v4 : (List ((List UInt8)))) => Option.bind (loopN (m32_l0 a0) FUEL (0, v4)) (fun (o5 : (List ((List UInt8)))) => Option.bind (some ()) (fun (y6 : Unit) => Option.bind (Option.bind (loopN (m32_l1 a0) FUEL ((w64 ((a0.vs.length : Int) - 1)), o5)) (fun (o10 : (List ((List UInt8)))) => some o10)) (fun (y8 : (List ((List UInt8)))) => cond ((y8.length : Int) == 1)
       (Option.bind (idx y8 0) fun (x21 : (List UInt8)) =>
     some (x21, 0))
       (guardO ((cond (Nat.ble y8.length 1000000) (Nat.ble (Lib.join y8 ([44, 32] : List UInt8)).length 1000000000) false))
     (guardO (Nat.ble (([109, 97, 120, 40] : List UInt8).length + (Lib.join y8 ([44, 32] : List UInt8)).length) 1000000000)
     (guardO (Nat.ble ((([109, 97, 120, 40] : List UInt8) ++ (Lib.join y8 ([44, 32] : List UInt8))).length + ([41] : List UInt8).length) 1000000000)
     (some (((([109, 97, 120, 40] : List UInt8) ++ (Lib.join y8 ([44, 32] : List UInt8))) ++ ([41] : List UInt8)), 0)))))))))) = some r) ?_ ?_
   ·
    refine bindK h0 (fun w1_ h1 h0 => ?_)
    refine XC.region ?_
    refine XL.rd rfl rfl (lb rfl) (RO.fieldOwn fo_24_0 rfl) ?_
    refine XL.rd rfl rfl (lb rfl) (RO.loadOwn ag_3 rfl rfl rfl) ?_
    refine XL.rd rfl rfl (lb rfl) (RO.binInt rfl rfl rfl) ?_
    refine XL.rd rfl rfl (lb rfl) (RO.move rfl) ?_
    refine XL.case (d := 15) (c := (decide (0 < a0.c))) rfl (fun c4 => ?_) (fun c4 => ?_)
    ·
     replace h1 := condT c4 h1
     refine XL.no rfl rfl ?_
     refine XL.no rfl rfl ?_
     refine XL.no rfl rfl ?_
     refine XL.no rfl rfl ?_
     refine XL.rd rfl rfl (lb rfl) (RO.pickT rfl rfl) ?_
     refine XL.nil ?_
     have e_ := Option.some.inj h1
     subst e_
     exact XQ.joinR true (stle (tR rfl (tR rfl (tR rfl tZ))) (hR rfl (hR rfl hZ)) kZ rfl (Nat.zero_le _) rfl rfl rfl (bB rfl rfl (bB rfl rfl bZ)) rfl rfl) h0
    ·
     replace h1 := condF c4 h1
     refine XL.rd rfl rfl (lb rfl) (RO.fieldOwn fo_24_1 rfl) ?_
     refine XL.rd rfl rfl (lb rfl) (RO.loadOwn ag_22 rfl rfl rfl) ?_
     refine XL.rd rfl rfl (lb rfl) (RO.lenE (α := LV) sl_22 rfl (.d _)) ?_
     refine XL.rd rfl rfl (lb rfl) (RO.binInt rfl rfl rfl) ?_
     refine XL.rd rfl rfl (lb rfl) (RO.pickF rfl rfl) ?_
     refine XL.nil ?_
     have e_ := Option.some.inj h1
     subst e_
     exact XQ.joinR ((a0.vs.length : Int) == 0) (stle (tR rfl (tR rfl (tR rfl tZ))) (hR rfl (hR rfl hZ)) kZ rfl (Nat.zero_le _) rfl rfl rfl (bB rfl rfl (bB rfl rfl bZ)) rfl rfl) h0
   ·
    intro v3 h0
    refine XQ.seq ?_
    refine XC.joinR (fun (v5 : (List ((List UInt8)))) => ⟨[(1, .v (.one (.ptr 0 0))), (4, .v (.one (.ptr 1 0)))], [(0, .cells 24 (cE a0)), (1, .cells 89 [dA 2 v5])], [(2, some ⟨9, 1, (Enc.encL v5).length⟩)], 3, 73, []⟩) (fun (v5 : (List ((List UInt8)))) => (Option.bind (loopN (m32_l0 a0) FUEL (0, v5)) (fun (o6 : (List ((List UInt8)))) => Option.bind (some ()) (fun (y7 : Unit) => Option.bind (Option.bind (loopN (m32_l1 a0) FUEL ((w64 ((a0.vs.length : Int) - 1)), o6)) (fun (o11 : (List ((List UInt8)))) => some o11)) (fun (y9 : (List ((List UInt8)))) => cond ((y9.length : Int) == 1)
        (Option.bind (idx y9 0) fun (x22 : (List UInt8)) =>
      some (x22, 0))
        (guardO ((cond (Nat.ble y9.length 1000000) (Nat.ble (Lib.join y9 ([44, 32] : List UInt8)).length 1000000000) false))
      (guardO (Nat.ble (([109, 97, 120, 40] : List UInt8).length + (Lib.join y9 ([44, 32] : List UInt8)).length) 1000000000)
      (guardO (Nat.ble ((([109, 97, 120, 40] : List UInt8) ++ (Lib.join y9 ([44, 32] : List UInt8))).length + ([41] : List UInt8).length) 1000000000)
      (some (((([109, 97, 120, 40] : List UInt8) ++ (Lib.join y9 ([44, 32] : List UInt8))) ++ ([41] : List UInt8)), 0))))))))) = some r) ?_ ?_
    ·
     refine bindK h0 (fun w1_ h1 h0 => ?_)
     refine XC.cond (b := v3) rfl (fun c6 => ?_) (fun c6 => ?_)
     ·
      replace h1 := condT c6 h1
      refine XC.anyRun [5, 6] [] mixed (by kernel_rfl) (by kernel_rfl) (by kernel_rfl) ?_
      refine RunA.rd rfl rfl rfl (OpOK.of_ro (RO.loadOwn ag_89 rfl rfl rfl)) rfl ?_
      refine RunA.rd rfl rfl rfl (OpOK.of_ro (RO.fieldOwn fo_24_0 rfl)) rfl ?_
      refine RunA.rd rfl rfl rfl (OpOK.of_ro (RO.loadOwn ag_3 rfl rfl rfl)) rfl ?_
      refine guardK h1 (fun g7 h1 => ?_)
      refine RunA.rd rfl rfl rfl (OpOK.callFun (itoaT_fun a0.c g7) rfl (.cons (.one (.d _)) .nil)) rfl ?_
      refine RunA.rd rfl rfl rfl (OpOK.data1E (α := (List UInt8)) ((Lib.itoa a0.c)) sl_89 z_9 rfl rfl (lb rfl) rfl rfl (.cons (.d _) .nil) rfl) rfl ?_
      refine guardK h1 (fun g8 h1 => ?_)
      refine RunA.eff rfl rfl rfl (OpOK.appendNilE (α := (List UInt8)) sl_89 el_9 rfl rfl rfl (.d _) g8) rfl ?_
      refine RunA.eff rfl rfl rfl (OpOK.store ag_89 rfl rfl rfl rfl (lb rfl) rfl) rfl ?_
      refine RunA.nil ⟨?ex, _, _, rfl, ?_⟩
      case ex => exact trivial
      have e_ := Option.some.inj h1
      subst e_
      exact XQ.joinR ([(Lib.itoa a0.c)]) (stle (tR rfl (tR rfl tZ)) (hR rfl (hR rfl hZ)) (kR rfl kZ) rfl (Nat.zero_le _) rfl rfl rfl (bB rfl rfl (bB rfl rfl bZ)) rfl rfl) h0
     ·
      replace h1 := condF c6 h1
      refine XC.skip ?_
      have e_ := Option.some.inj h1
      subst e_
      refine XQ.skipTo 2 (lb rfl) ?_
      refine XQ.adoptC (i := 1) (off := 0) 9 1 rfl rfl ?_
      exact XQ.joinR ([] : List ((List UInt8))) (stle (tR rfl (tR rfl tZ)) (hR rfl (hR rfl hZ)) (kR rfl kZ) rfl (Nat.zero_le _) rfl rfl rfl (bB rfl rfl (bB rfl rfl bZ)) rfl rfl) h0
    ·
     intro v5 h0
     refine XQ.seq ?_
     refine XC.seq ?_
     refine XC.seq ?_
     refine XC.region ?_
     refine XL.rd rfl rfl (lb rfl) (RO.fieldOwn fo_24_1 rfl) ?_
     refine XL.rd rfl rfl (lb rfl) (RO.loadOwn ag_22 rfl rfl rfl) ?_
     refine XL.rd rfl rfl (lb rfl) (RO.lenE (α := LV) sl_22 rfl (.d _)) ?_
     refine XL.rd rfl rfl (lb rfl) (RO.move rfl) ?_
     refine XL.nil ?_
     refine XQ.seq ?_
     refine XC.block ?_
     refine XC.joinX 0 (fun (o9 : (List ((List UInt8)))) => ⟨[(1, .v (.one (.ptr 0 0))), (4, .v (.one (.ptr 1 0)))], [(0, .cells 24 (cE a0)), (1, .cells 89 [dA 2 o9])], [(2, some ⟨9, 1, (Enc.encL o9).length⟩)], 3, 73, []⟩) (fun (o9 : (List ((List UInt8)))) => (Option.bind (some ()) (fun (y10 : Unit) => Option.bind (Option.bind (loopN (m32_l1 a0) FUEL ((w64 ((a0.vs.length : Int) - 1)), o9)) (fun (o14 : (List ((List UInt8)))) => some o14)) (fun (y12 : (List ((List UInt8)))) => cond ((y12.length : Int) == 1)
         (Option.bind (idx y12 0) fun (x25 : (List UInt8)) =>
       some (x25, 0))
         (guardO ((cond (Nat.ble y12.length 1000000) (Nat.ble (Lib.join y12 ([44, 32] : List UInt8)).length 1000000000) false))
       (guardO (Nat.ble (([109, 97, 120, 40] : List UInt8).length + (Lib.join y12 ([44, 32] : List UInt8)).length) 1000000000)
       (guardO (Nat.ble ((([109, 97, 120, 40] : List UInt8) ++ (Lib.join y12 ([44, 32] : List UInt8))).length + ([41] : List UInt8).length) 1000000000)
       (some (((([109, 97, 120, 40] : List UInt8) ++ (Lib.join y12 ([44, 32] : List UInt8))) ++ ([41] : List UInt8)), 0)))))))) = some r) ?_ ?_
     ·
      refine bindK h0 (fun o10 hl1 h0 => ?_)
      refine XC.loopM (m32_l0 a0) (fun s1 => ⟨[(1, .v (.one (.ptr 0 0))), (4, .v (.one (.ptr 1 0))), (28, .v (.one (dS a0.vs))), (29, .v (.one (dI (a0.vs.length : Int)))), (30, .v (.one (dI s1.1)))], [(0, .cells 24 (cE a0)), (1, .cells 89 [dA 2 s1.2])], [(2, some ⟨9, 1, (Enc.encL s1.2).length⟩)], 3, 73, []⟩) (0, v5) o10 (stle (tR rfl (tR rfl (tR rfl (tR rfl (tR rfl tZ))))) (hR rfl (hR rfl hZ)) (kR rfl kZ) rfl (Nat.zero_le _) rfl rfl rfl (bB rfl rfl (bB rfl rfl bZ)) rfl rfl) hl1 (fun s1 n1 oo1 h1 ho1 => ?_)
      unfold m32_l0 at h1
      refine XC.seq ?_
      refine XC.region ?_
      refine XL.rd rfl rfl (lb rfl) (RO.binInt rfl rfl rfl) ?_
      refine XL.nil ?_
      refine XQ.seq ?_
      refine XC.seq ?_
      refine XC.cond (b := (decide (s1.1 < (a0.vs.length : Int)))) rfl (fun c11 => ?_) (fun c11 => ?_)
      ·
       replace h1 := condT c11 h1
       refine XC.skip ?_
       refine XQ.seq ?_
       refine XC.seq ?_
       refine XC.block ?_
       refine XC.seq ?_
       refine XC.region ?_
       refine bindK h1 (fun x12 hx12 h1 => ?_)
       refine XL.rd rfl rfl (lb rfl) (RO.indexE (α := LV) sl_22 rfl (.d _) rfl hx12) ?_
       refine XL.rd rfl rfl (lb rfl) (RO.loadPelAgg ag_69 rfl rfl rfl) ?_
       refine XL.put rfl rfl (lb rfl) (OpOK.alloc z_69 rfl) ?_
       refine XL.eff rfl rfl (OpOK.store ag_69 rfl rfl rfl rfl (lb rfl) rfl) ?_
       refine XL.nil ?_
       refine XQ.seq ?_
       refine XC.seq ?_
       refine XC.region ?_
       refine XL.rd rfl rfl (lb rfl) (RO.fieldOwn fo_69_0 rfl) ?_
       refine XL.rd rfl rfl (lb rfl) (RO.loadOwn ag_3 rfl rfl rfl) ?_
       refine XL.rd rfl rfl (lb rfl) (RO.binInt rfl rfl rfl) ?_
       refine XL.nil ?_
       refine XQ.seq ?_
       refine XC.cond (b := (decide (0 ≤ x12.1))) rfl (fun c13 => ?_) (fun c13 => ?_)
       ·
        replace h1 := condT c13 h1
        refine XC.anyRun [7, 8] [] mixed (by kernel_rfl) (by kernel_rfl) (by kernel_rfl) ?_
        refine RunA.rd rfl rfl rfl (OpOK.of_ro (RO.loadOwn ag_89 rfl rfl rfl)) rfl ?_
        refine RunA.rd rfl rfl rfl (OpOK.of_ro (RO.fieldOwn fo_69_0 rfl)) rfl ?_
        refine RunA.rd rfl rfl rfl (OpOK.of_ro (RO.loadOwn ag_3 rfl rfl rfl)) rfl ?_
        refine RunA.rd rfl rfl rfl (OpOK.of_ro (RO.fieldOwn fo_69_1 rfl)) rfl ?_
        refine RunA.rd rfl rfl rfl (OpOK.of_ro (RO.loadOwn ag_3 rfl rfl rfl)) rfl ?_
        refine bindK h1 (fun x14 hx14 h1 => ?_)
        refine RunA.rd rfl rfl rfl (OpOK.callFun (m64_ok ([117] : List UInt8) x12.1 x12.2 x14 hx14) rfl (.cons (.one (.d _)) (.cons (.one (.d _)) (.cons (.one (.d _)) .nil)))) rfl ?_
        refine RunA.rd rfl rfl rfl (OpOK.data1E (α := (List UInt8)) (x14) sl_89 z_9 rfl rfl (lb rfl) rfl rfl (.cons (.d _) .nil) rfl) rfl ?_
        refine guardK h1 (fun g15 h1 => ?_)
        refine RunA.eff rfl rfl rfl (OpOK.appendE (α := (List UInt8)) sl_89 el_9 rfl rfl rfl rfl rfl (.d _) g15) rfl ?_
        refine RunA.eff rfl rfl rfl (OpOK.store ag_89 rfl rfl rfl rfl (lb rfl) rfl) rfl ?_
        refine RunA.nil ⟨?ex, _, _, rfl, ?_⟩
        case ex => exact trivial
        refine XQ.less (st' := ⟨[(1, .v (.one (.ptr 0 0))), (4, .v (.one (.ptr 1 0))), (28, .v (.one (dS a0.vs))), (29, .v (.one (dI (a0.vs.length : Int)))), (30, .v (.one (dI s1.1)))], [(0, .cells 24 (cE a0)), (1, .cells 89 [dA 2 ((s1.2 ++ ([x14])) : List ((List UInt8)))]), (3, .cells 69 (cE x12))], [(2, some ⟨9, 1, (Enc.encL ((s1.2 ++ ([x14])) : List ((List UInt8)))).length⟩)], 4, 73, []⟩) (stle (tR rfl (tR rfl (tR rfl (tR rfl (tR rfl tZ))))) (hR rfl (hR rfl (hR rfl hZ))) (kR rfl kZ) rfl (Nat.zero_le _) rfl rfl rfl (bB rfl rfl (bB rfl rfl (bB rfl rfl bZ))) rfl rfl) ?_
        refine XQ.inBlock ?_
        refine XQ.seq ?_
        refine XC.region ?_
        refine XL.rd rfl rfl (lb rfl) (RO.binInt rfl rfl rfl) ?_
        refine XL.rd rfl rfl (lb rfl) (RO.move rfl) ?_
        refine XL.nil ?_
        have e_ := Option.some.inj h1
        subst e_
        refine XQ.nextM ((w64 (s1.1 + 1)), (s1.2 ++ ([x14]))) (stle (tR rfl (tR rfl (tR rfl (tR rfl (tR rfl tZ))))) (hR rfl (hR rfl hZ)) (kR rfl kZ) rfl (Nat.zero_le _) rfl rfl rfl (bB rfl rfl (bB rfl rfl bZ)) rfl rfl) ho1
       ·
        replace h1 := condF c13 h1
        refine XC.skip ?_
        refine XQ.inBlock ?_
        refine XQ.seq ?_
        refine XC.region ?_
        refine XL.rd rfl rfl (lb rfl) (RO.binInt rfl rfl rfl) ?_
        refine XL.rd rfl rfl (lb rfl) (RO.move rfl) ?_
        refine XL.nil ?_
        have e_ := Option.some.inj h1
        subst e_
        refine XQ.nextM ((w64 (s1.1 + 1)), s1.2) (stle (tR rfl (tR rfl (tR rfl (tR rfl (tR rfl tZ))))) (hR rfl (hR rfl hZ)) (kR rfl kZ) rfl (Nat.zero_le _) rfl rfl rfl (bB rfl rfl (bB rfl rfl bZ)) rfl rfl) ho1
      ·
       replace h1 := condF c11 h1
       refine XC.exit ?_
       refine XQ.thenE ?_
       refine XQ.thenE ?_
       have e_ := Option.some.inj h1
       subst e_
       have e_ : _ = _ := ho1
       subst e_
       exact XQ.joinX s1.2 (stle (tR rfl (tR rfl tZ)) (hR rfl (hR rfl hZ)) (kR rfl kZ) rfl (Nat.zero_le _) rfl rfl rfl (bB rfl rfl (bB rfl rfl bZ)) rfl rfl) h0
     ·
      intro o9 h0
      refine XQ.blockX ?_
      refine XQ.seq ?_
      refine XC.seq ?_
      refine XC.seq ?_
      refine XC.region ?_
      refine XL.rd rfl rfl (lb rfl) (RO.fieldOwn fo_24_1 rfl) ?_
      refine XL.rd rfl rfl (lb rfl) (RO.loadOwn ag_22 rfl rfl rfl) ?_
      refine bindK h0 (fun y16 h1 h0 => ?_)
      have hc17 : CallM Tryz.prog 65 [.one (dS a0.vs)] ⟨[(0, .cells 24 (cE a0)), (1, .cells 89 [dA 2 o9])], [(2, some ⟨9, 1, (Enc.encL o9).length⟩)], 3⟩ (resOf [.one (.fn 88 [(3, 0)])]) ⟨[(0, .cells 24 (cE a0)), (1, .cells 89 [dA 2 o9]), (3, .cells 22 [dS a0.vs])], [(2, some ⟨9, 1, (Enc.encL o9).length⟩)], 4⟩ := by
       refine CallM.of_bodyD ⟨[(2, .v (.one (.fn 88 [(3, 0)])))], [(0, .cells 24 (cE a0)), (1, .cells 89 [dA 2 o9]), (3, .cells 22 [dS a0.vs])], [(2, some ⟨9, 1, (Enc.encL o9).length⟩)], 4, 4, []⟩ rfl rfl en_65 (lb rfl) rfl (RAs.tmp rfl .nil) (fun w0 M V0 Q hv1 hQ1 => ?_)
       simp only [entry]
       refine XC.seq ?_
       refine XC.region ?_
       refine XL.put rfl rfl (lb rfl) (OpOK.box rfl) ?_
       refine XL.rd rfl rfl (lb rfl) (RO.assign rfl) ?_
       refine XL.nil ?_
       refine XQ.seq ?_
       refine XC.seq ?_
       refine XC.region ?_
       refine XL.rd rfl rfl (lb rfl) (RO.makeFunc1 rfl) ?_
       refine XL.rd rfl rfl (lb rfl) (RO.assign rfl) ?_
       refine XL.nil ?_
       refine XQ.seq ?_
       refine XC.ret ?_
       have e_ := Option.some.inj h1
       subst e_
       exact hQ1 _ _ _ (.inr rfl) rfl (stle (tR rfl tZ) (hR rfl (hR rfl (hR rfl hZ))) (kR rfl kZ) rfl (Nat.le_trans hv1 (lb rfl)) rfl rfl rfl (bB rfl rfl (bB rfl rfl (bB rfl rfl bZ))) rfl rfl)
      refine XL.put rfl rfl (lb rfl) (OpOK.callW rfl rfl rfl hc17 rfl (hR rfl (hR rfl hZ)) (kR rfl kZ)) ?_
      refine XL.nil ?_
      refine XQ.seq ?_
      refine XC.block ?_
      refine XC.less (st' := ⟨[(4, .v (.one (.ptr 1 0))), (48, .v (.one (.fn 88 [(3, 0)])))], [(0, .cells 24 (cE a0)), (1, .cells 89 [dA 2 o9]), (3, .cells 22 [dS a0.vs])], [(2, some ⟨9, 1, (Enc.encL o9).length⟩)], 4, 73, []⟩) (stle (tR rfl (tR rfl tZ)) (hR rfl (hR rfl (hR rfl hZ))) (kR rfl kZ) rfl (Nat.zero_le _) rfl rfl rfl (bB rfl rfl (bB rfl rfl (bB rfl rfl bZ))) rfl rfl) ?_
      refine bindK h0 (fun y18 h1 h0 => ?_)
      have hc19 : CallM Tryz.prog 88 [.one (.yld 5), .one (.ptr 3 0)] ⟨[(5, .loop .ready none [(4, .v (.one (.ptr 1 0))), (48, .v (.one (.fn 88 [(3, 0)])))] 73 #[49, 50] m32_c0 m32_c1 4), (4, .obj (.deferred (some []))), (0, .cells 24 (cE a0)), (1, .cells 89 [dA 2 o9]), (3, .cells 22 [dS a0.vs])], [(2, some ⟨9, 1, (Enc.encL o9).length⟩)], 6⟩ (resOf []) ⟨[(0, .cells 24 (cE a0)), (1, .cells 89 [dA 2 y18]), (3, .cells 22 [dS a0.vs]), (4, .obj (.deferred (some []))), (5, .loop .ready none [(4, .v (.one (.ptr 1 0))), (48, .v (.one (.fn 88 [(3, 0)])))] 73 #[49, 50] m32_c0 m32_c1 4)], [(2, some ⟨9, 1, (Enc.encL y18).length⟩)], 6⟩ := by
       refine CallM.of_bodyD ⟨[], [(0, .cells 24 (cE a0)), (1, .cells 89 [dA 2 y18]), (3, .cells 22 [dS a0.vs]), (4, .obj (.deferred (some []))), (5, .loop .ready none [(4, .v (.one (.ptr 1 0))), (48, .v (.one (.fn 88 [(3, 0)])))] 73 #[49, 50] m32_c0 m32_c1 4)], [(2, some ⟨9, 1, (Enc.encL y18).length⟩)], 6, 19, []⟩ rfl rfl en_88 (lb rfl) rfl .nil (fun w0 M V0 Q hv1 hQ1 => ?_)
       simp only [entry]
       refine XC.seq ?_
       refine XC.region ?_
       refine XL.rd rfl rfl (lb rfl) (RO.loadOwn ag_22 rfl rfl rfl) ?_
       refine XL.rd rfl rfl (lb rfl) (RO.lenE (α := LV) sl_22 rfl (.d _)) ?_
       refine XL.rd rfl rfl (lb rfl) (RO.binInt rfl rfl rfl) ?_
       refine XL.rd rfl rfl (lb rfl) (RO.assign rfl) ?_
       refine XL.nil ?_
       refine XQ.seq ?_
       refine XC.block ?_
       refine XC.joinX 0 (fun (o20 : (List ((List UInt8)))) => ⟨[], [(0, .cells 24 (cE a0)), (1, .cells 89 [dA 2 o20]), (3, .cells 22 [dS a0.vs]), (4, .obj (.deferred (some []))), (5, .loop .ready none [(4, .v (.one (.ptr 1 0))), (48, .v (.one (.fn 88 [(3, 0)])))] 73 #[49, 50] m32_c0 m32_c1 4)], [(2, some ⟨9, 1, (Enc.encL o20).length⟩)], 6, 19, []⟩) (fun (o20 : (List ((List UInt8)))) => (some o20) = some y18) ?_ ?_
       ·
        refine bindK h1 (fun o21 hl2 h1 => ?_)
        refine XC.loopM (m32_l1 a0) (fun s2 => ⟨[(0, .v (.one (.yld 5))), (1, .v (.one (.ptr 3 0))), (3, .v (.one (dI s2.1)))], [(0, .cells 24 (cE a0)), (1, .cells 89 [dA 2 s2.2]), (3, .cells 22 [dS a0.vs]), (4, .obj (.deferred (some []))), (5, .loop .ready none [(4, .v (.one (.ptr 1 0))), (48, .v (.one (.fn 88 [(3, 0)])))] 73 #[49, 50] m32_c0 m32_c1 4)], [(2, some ⟨9, 1, (Enc.encL s2.2).length⟩)], 6, 19, []⟩) ((w64 ((a0.vs.length : Int) - 1)), o9) o21 (stle (tR rfl (tR rfl (tR rfl tZ))) (hR rfl (hR rfl (hR rfl (hR rfl (hR rfl hZ))))) (kR rfl kZ) rfl (Nat.le_trans hv1 (lb rfl)) rfl rfl rfl (bB rfl rfl (bB rfl rfl (bB rfl rfl (bB rfl rfl (bB rfl rfl bZ))))) rfl rfl) hl2 (fun s2 n2 oo2 h2 ho2 => ?_)
        unfold m32_l1 at h2
        refine XC.seq ?_
        refine XC.seq ?_
        refine XC.region ?_
        refine XL.rd rfl rfl (lb rfl) (RO.move rfl) ?_
        refine XL.rd rfl rfl (lb rfl) (RO.binInt rfl rfl rfl) ?_
        refine XL.nil ?_
        refine XQ.seq ?_
        refine XC.cond (b := (decide (0 ≤ s2.1))) rfl (fun c22 => ?_) (fun c22 => ?_)
        ·
         replace h2 := condT c22 h2
         refine XC.skip ?_
         refine XQ.seq ?_
         refine XC.seq ?_
         refine XC.block ?_
         refine XC.seq ?_
         refine XC.region ?_
         refine XL.rd rfl rfl (lb rfl) (RO.move rfl) ?_
         refine XL.rd rfl rfl (lb rfl) (RO.move rfl) ?_
         refine XL.rd rfl rfl (lb rfl) (RO.loadOwn ag_22 rfl rfl rfl) ?_
         refine XL.rd rfl rfl (lb rfl) (RO.move rfl) ?_
         refine bindK h2 (fun x23 hx23 h2 => ?_)
         refine XL.rd rfl rfl (lb rfl) (RO.indexE (α := LV) sl_22 rfl (.d _) rfl hx23) ?_
         refine XL.rd rfl rfl (lb rfl) (RO.loadPelAgg ag_69 rfl rfl rfl) ?_
         refine bindK h2 (fun y24 h3 h2 => ?_)
         have ha25 : ExecOK Tryz.prog (some 5) m32_c0 ⟨[(4, .v (.one (.ptr 1 0))), (48, .v (.one (.fn 88 [(3, 0)]))), (49, .v (.one (dI s2.1))), (50, .v (.agg (cE x23)))], [(0, .cells 24 (cE a0)), (1, .cells 89 [dA 2 s2.2]), (3, .cells 22 [dS a0.vs]), (4, .obj (.deferred (some []))), (5, .loop .ready none [(4, .v (.one (.ptr 1 0))), (48, .v (.one (.fn 88 [(3, 0)])))] 73 #[49, 50] m32_c0 m32_c1 4)], [(2, some ⟨9, 1, (Enc.encL s2.2).length⟩)], 6, 73, []⟩ .normal ⟨[(4, .v (.one (.ptr 1 0))), (8, .v (.one (.ptr 6 0)))], [(0, .cells 24 (cE a0)), (1, .cells 89 [dA 2 s2.2]), (3, .cells 22 [dS a0.vs]), (4, .obj (.deferred (some []))), (5, .loop .ready none [(4, .v (.one (.ptr 1 0))), (48, .v (.one (.fn 88 [(3, 0)])))] 73 #[49, 50] m32_c0 m32_c1 4), (6, .cells 69 (cE x23))], [(2, some ⟨9, 1, (Enc.encL s2.2).length⟩)], 7, 73, []⟩ := by
          refine ExecOK.walk (fun w0 M V0 ro n Q hv3 hro3 hQn3 => ?_)
          refine XC.region ?_
          refine XL.put rfl rfl (lb rfl) (OpOK.alloc z_69 rfl) ?_
          refine XL.eff rfl rfl (OpOK.store ag_69 rfl rfl rfl rfl (lb rfl) rfl) ?_
          refine XL.nil ?_
          exact XQ.of hQn3 (stle (tR rfl (tR rfl tZ)) (hR rfl (hR rfl (hR rfl (hR rfl (hR rfl (hR rfl hZ)))))) (kR rfl kZ) rfl (Nat.le_trans hv3 (lb rfl)) rfl rfl rfl (bB rfl rfl (bB rfl rfl (bB rfl rfl (bB rfl rfl (bB rfl rfl (bB rfl rfl bZ)))))) rfl rfl)
         have hb26 : ExecOK Tryz.prog (some 5) m32_c1 ⟨[(4, .v (.one (.ptr 1 0))), (8, .v (.one (.ptr 6 0)))], [(0, .cells 24 (cE a0)), (1, .cells 89 [dA 2 s2.2]), (3, .cells 22 [dS a0.vs]), (4, .obj (.deferred (some []))), (5, .loop .busy none [(4, .v (.one (.ptr 1 0))), (48, .v (.one (.fn 88 [(3, 0)])))] 73 #[49, 50] m32_c0 m32_c1 4), (6, .cells 69 (cE x23))], [(2, some ⟨9, 1, (Enc.encL s2.2).length⟩)], 7, 73, []⟩ .normal ⟨[], [(0, .cells 24 (cE a0)), (1, .cells 89 [dA 2 y24]), (3, .cells 22 [dS a0.vs]), (4, .obj (.deferred (some []))), (5, .loop .busy none [(4, .v (.one (.ptr 1 0))), (48, .v (.one (.fn 88 [(3, 0)])))] 73 #[49, 50] m32_c0 m32_c1 4)], [(2, some ⟨9, 1, (Enc.encL y24).length⟩)], 7, 73, []⟩ := by
          refine ExecOK.walk (fun w0 M V0 ro n Q hv3 hro3 hQn3 => ?_)
          refine XC.block ?_
          refine XC.seq ?_
          refine XC.region ?_
          refine XL.rd rfl rfl (lb rfl) (RO.fieldOwn fo_69_0 rfl) ?_
          refine XL.rd rfl rfl (lb rfl) (RO.loadOwn ag_3 rfl rfl rfl) ?_
          refine XL.rd rfl rfl (lb rfl) (RO.binInt rfl rfl rfl) ?_
          refine XL.nil ?_
          refine XQ.seq ?_
          refine XC.cond (b := (decide (x23.1 < 0))) rfl (fun c27 => ?_) (fun c27 => ?_)
          ·
           replace h3 := condT c27 h3
           refine XC.anyRun [8, 9] [] mixed (by kernel_rfl) (by kernel_rfl) (by kernel_rfl) ?_
           refine RunA.rd rfl rfl rfl (OpOK.of_ro (RO.loadOwn ag_89 rfl rfl rfl)) rfl ?_
           refine RunA.rd rfl rfl rfl (OpOK.of_ro (RO.fieldOwn fo_69_0 rfl)) rfl ?_
           refine RunA.rd rfl rfl rfl (OpOK.of_ro (RO.loadOwn ag_3 rfl rfl rfl)) rfl ?_
           refine RunA.rd rfl rfl rfl (OpOK.of_ro (RO.binInt rfl rfl rfl)) rfl ?_
           refine RunA.rd rfl rfl rfl (OpOK.of_ro (RO.fieldOwn fo_69_1 rfl)) rfl ?_
           refine RunA.rd rfl rfl rfl (OpOK.of_ro (RO.loadOwn ag_3 rfl rfl rfl)) rfl ?_
           refine bindK h3 (fun x28 hx28 h3 => ?_)
           refine RunA.rd rfl rfl rfl (OpOK.callFun (m64_ok ([63] : List UInt8) (w64 ((-1) - x23.1)) x23.2 x28 hx28) rfl (.cons (.one (.d _)) (.cons (.one (.d _)) (.cons (.one (.d _)) .nil)))) rfl ?_
           refine RunA.rd rfl rfl rfl (OpOK.data1E (α := (List UInt8)) (x28) sl_89 z_9 rfl rfl (lb rfl) rfl rfl (.cons (.d _) .nil) rfl) rfl ?_
           refine guardK h3 (fun g29 h3 => ?_)
           refine RunA.eff rfl rfl rfl (OpOK.appendE (α := (List UInt8)) sl_89 el_9 rfl rfl rfl rfl rfl (.d _) g29) rfl ?_
           refine RunA.eff rfl rfl rfl (OpOK.store ag_89 rfl rfl rfl rfl (lb rfl) rfl) rfl ?_
           refine RunA.nil ⟨?ex, _, _, rfl, ?_⟩
           case ex => exact trivial
           refine XQ.less (st' := ⟨[], [(0, .cells 24 (cE a0)), (1, .cells 89 [dA 2 ((s2.2 ++ ([x28])) : List ((List UInt8)))]), (3, .cells 22 [dS a0.vs]), (4, .obj (.deferred (some []))), (5, .loop .busy none [(4, .v (.one (.ptr 1 0))), (48, .v (.one (.fn 88 [(3, 0)])))] 73 #[49, 50] m32_c0 m32_c1 4), (6, .cells 69 (cE x23))], [(2, some ⟨9, 1, (Enc.encL ((s2.2 ++ ([x28])) : List ((List UInt8)))).length⟩)], 7, 73, []⟩) (stle tZ (hR rfl (hR rfl (hR rfl (hR rfl (hR rfl (hR rfl hZ)))))) (kR rfl kZ) rfl (Nat.le_trans hv3 (lb rfl)) rfl rfl rfl (bB rfl rfl (bB rfl rfl (bB rfl rfl (bB rfl rfl (bB rfl rfl (bB rfl rfl bZ)))))) rfl rfl) ?_
           refine XQ.inBlock ?_
           have e_ := Option.some.inj h3
           subst e_
           exact XQ.of hQn3 (stle tZ (hR rfl (hR rfl (hR rfl (hR rfl (hR rfl hZ))))) (kR rfl kZ) rfl (Nat.le_trans hv3 (lb rfl)) rfl rfl rfl (bB rfl rfl (bB rfl rfl (bB rfl rfl (bB rfl rfl (bB rfl rfl bZ))))) rfl rfl)
          ·
           replace h3 := condF c27 h3
           refine XC.skip ?_
           refine XQ.inBlock ?_
           have e_ := Option.some.inj h3
           subst e_
           exact XQ.of hQn3 (stle tZ (hR rfl (hR rfl (hR rfl (hR rfl (hR rfl hZ))))) (kR rfl kZ) rfl (Nat.le_trans hv3 (lb rfl)) rfl rfl rfl (bB rfl rfl (bB rfl rfl (bB rfl rfl (bB rfl rfl (bB rfl rfl bZ))))) rfl rfl)
         refine XL.put rfl rfl (lb rfl) (OpOK.yield (jump := none) rfl rfl rfl rfl rfl (ExecOK.from ha25 (fun E hv => (stle (tR rfl (tR rfl (tR rfl (tR rfl tZ)))) (hR rfl (hR rfl (hR rfl (hR rfl (hR rfl hZ))))) (kR rfl kZ) rfl (Nat.le_trans hv (lb rfl)) rfl rfl rfl (bB rfl rfl (bB rfl rfl (bB rfl rfl (bB rfl rfl (bB rfl rfl bZ))))) rfl rfl))) rfl (ExecOK.from hb26 (fun E hv => (stle (tR rfl (tR rfl tZ)) (hR rfl (hR rfl (hR rfl (hR rfl (hR rfl (hR rfl hZ)))))) (kR rfl kZ) rfl (Nat.le_trans hv (lb rfl)) rfl rfl rfl (bB rfl rfl (bB rfl rfl (bB rfl rfl (bB rfl rfl (bB rfl rfl (bB rfl rfl bZ)))))) rfl rfl))) rfl rfl) ?_
         refine XL.rd rfl rfl (lb rfl) (RO.not rfl) ?_
         refine XL.nil ?_
         refine XQ.seq ?_
         refine XC.cond rfl (fun h => nomatch h) (fun _ => ?_)
         refine XC.skip ?_
         refine XQ.inBlock ?_
         refine XQ.seq ?_
         refine XC.region ?_
         refine XL.rd rfl rfl (lb rfl) (RO.move rfl) ?_
         refine XL.rd rfl rfl (lb rfl) (RO.binInt rfl rfl rfl) ?_
         refine XL.rd rfl rfl (lb rfl) (RO.assign rfl) ?_
         refine XL.nil ?_
         have e_ := Option.some.inj h2
         subst e_
         refine XQ.nextM ((w64 (s2.1 - 1)), y24) (stle (tR rfl (tR rfl (tR rfl tZ))) (hR rfl (hR rfl (hR rfl (hR rfl (hR rfl hZ))))) (kR rfl kZ) rfl (Nat.le_trans hv1 (lb rfl)) rfl rfl rfl (bB rfl rfl (bB rfl rfl (bB rfl rfl (bB rfl rfl (bB rfl rfl bZ))))) rfl rfl) ho2
        ·
         replace h2 := condF c22 h2
         refine XC.exit ?_
         refine XQ.thenE ?_
         refine XQ.thenE ?_
         have e_ := Option.some.inj h2
         subst e_
         have e_ : _ = _ := ho2
         subst e_
         exact XQ.joinX s2.2 (stle tZ (hR rfl (hR rfl (hR rfl (hR rfl (hR rfl hZ))))) (kR rfl kZ) rfl (Nat.le_trans hv1 (lb rfl)) rfl rfl rfl (bB rfl rfl (bB rfl rfl (bB rfl rfl (bB rfl rfl (bB rfl rfl bZ))))) rfl rfl) h1
       ·
        intro o20 h1
        refine XQ.blockX ?_
        have e_ := Option.some.inj h1
        subst e_
        exact hQ1 _ _ _ (.inl rfl) rfl (stle tZ (hR rfl (hR rfl (hR rfl (hR rfl (hR rfl hZ))))) (kR rfl kZ) rfl (Nat.le_trans hv1 (lb rfl)) rfl rfl rfl (bB rfl rfl (bB rfl rfl (bB rfl rfl (bB rfl rfl (bB rfl rfl bZ))))) rfl rfl)
      refine XC.exec (rangeFunc_out (e := .normal) rfl hc19 rfl (by intro h; cases h) rfl) rfl ?_
      refine XQ.inBlock ?_
      refine XQ.seq ?_
      refine XC.seq ?_
      refine XC.seq ?_
      refine XC.region ?_
      refine XL.rd rfl rfl (lb rfl) (RO.loadOwn ag_89 rfl rfl rfl) ?_
      refine XL.rd rfl rfl (lb rfl) (RO.lenE (α := (List UInt8)) sl_89 rfl (.app _ _)) ?_
      refine XL.rd rfl rfl (lb rfl) (RO.binInt rfl rfl rfl) ?_
      refine XL.nil ?_
      refine XQ.seq ?_
      refine XC.cond (b := ((y18.length : Int) == 1)) rfl (fun c30 => ?_) (fun c30 => ?_)
      ·
       replace h0 := condT c30 h0
       refine XC.seq ?_
       refine XC.region ?_
       refine XL.rd rfl rfl (lb rfl) (RO.loadOwn ag_89 rfl rfl rfl) ?_
       refine bindK h0 (fun x31 hx31 h0 => ?_)
       refine XL.rd rfl rfl (lb rfl) (RO.indexE (α := (List UInt8)) sl_89 rfl (.app _ _) rfl hx31) ?_
       refine XL.rd rfl rfl (lb rfl) (RO.loadPel ag_9 rfl rfl) ?_
       refine XL.rd rfl rfl (lb rfl) (RO.assign rfl) ?_
       refine XL.rd rfl rfl (lb rfl) (RO.assign rfl) ?_
       refine XL.nil ?_
       refine XQ.seq ?_
       refine XC.ret ?_
       have e_ := Option.some.inj h0
       subst e_
       exact XQ.retF (fun _ _ h => h) rfl (RAs.tmp rfl (RAs.tmp rfl .nil)) (.cons (.one (.d _)) (.cons (.one (.d _)) .nil))
      ·
       replace h0 := condF c30 h0
       refine XC.skip ?_
       refine XQ.seq ?_
       refine XC.seq ?_
       refine XC.region ?_
       refine XL.rd rfl rfl (lb rfl) (RO.loadOwn ag_89 rfl rfl rfl) ?_
       refine guardK h0 (fun g32 h0 => ?_)
       refine XL.put rfl rfl (lb rfl) (OpOK.callFun (join_str_fun y18 ([44, 32] : List UInt8) g32) rfl (.cons (.one (.app _ _ _)) (.cons (.one (.d _)) .nil))) ?_
       refine guardK h0 (fun g33 h0 => ?_)
       refine XL.rd rfl rfl (lb rfl) (RO.addS rfl rfl g33) ?_
       refine guardK h0 (fun g34 h0 => ?_)
       refine XL.rd rfl rfl (lb rfl) (RO.addS rfl rfl g34) ?_
       refine XL.rd rfl rfl (lb rfl) (RO.assign rfl) ?_
       refine XL.rd rfl rfl (lb rfl) (RO.assign rfl) ?_
       refine XL.nil ?_
       refine XQ.seq ?_
       refine XC.ret ?_
       have e_ := Option.some.inj h0
       subst e_
       exact XQ.retF (fun _ _ h => h) rfl (RAs.tmp rfl (RAs.tmp rfl .nil)) (.cons (.one (.d _)) (.cons (.one (.d _)) .nil))
def m33_l0 (a0 : Lvl) (s1 : (List ((List UInt8))) × Int) : Option (LO ((List ((List UInt8))) × Int) (((List ((List UInt8)))))) :=
  cond (decide (s1.2 < (a0.vs.length : Int)))
    (Option.bind (idx a0.vs s1.2) fun (x7 : LV) =>
  cond (decide (0 ≤ x7.1))
    (Option.bind (idx a0.vs s1.2) fun (x9 : LV) =>
  Option.bind (idx a0.vs s1.2) fun (x10 : LV) =>
  Option.bind (m68 ([117] : List UInt8) x9.1 x10.2) fun (x11 : ((List UInt8))) =>
  guardO (Nat.ble (s1.1.length + ([x11]).length) 1000000000)
  (some (.next ((s1.1 ++ ([x11])), (w64 (s1.2 + 1))))))
    (some (.next (s1.1, (w64 (s1.2 + 1))))))
    (some (.done s1.1))
def m33_l1 (a0 : Lvl) (s1 : (List ((List UInt8))) × Int) : Option (LO ((List ((List UInt8))) × Int) (((List ((List UInt8)))))) :=
  cond (decide (0 ≤ s1.2))
    (Option.bind (idx a0.vs s1.2) fun (x8 : LV) =>
  cond (decide (x8.1 < 0))
    (Option.bind (idx a0.vs s1.2) fun (x10 : LV) =>
  Option.bind (idx a0.vs s1.2) fun (x11 : LV) =>
  Option.bind (m68 ([63] : List UInt8) (w64 ((-1) - x10.1)) x11.2) fun (x12 : ((List UInt8))) =>
  guardO (Nat.ble (s1.1.length + ([x12]).length) 1000000000)
  (some (.next ((s1.1 ++ ([x12])), (w64 (s1.2 - 1))))))
    (some (.next (s1.1, (w64 (s1.2 - 1))))))
    (some (.done s1.1))
def m33_l2 (o6 : (List ((List UInt8)))) (s1 : ((List UInt8)) × Int) : Option (LO (((List UInt8)) × Int) ((((List UInt8))))) :=
  cond (decide (s1.2 < (o6.length : Int)))
    (Option.bind (cond (decide (0 < s1.2))
    (guardO (Nat.ble (s1.1.length + ([44, 32] : List UInt8).length) 1000000000)
  (some (s1.1 ++ ([44, 32] : List UInt8))))
    (some s1.1)) (fun (v11 : ((List UInt8))) => Option.bind (idx o6 s1.2) fun (x12 : (List UInt8)) =>
  guardO (Nat.ble (v11.length + x12.length) 1000000000)
  (some (.next ((v11 ++ x12), (w64 (s1.2 + 1)))))))
    (some (.done s1.1))
def m33 (a0 : Lvl) : Option (((List UInt8)) × Int) :=
  guardO (Nat.ble a0.vs.length 100000)
  (cond (!(validB a0))
    (some (([] : List UInt8), 3))
    (Option.bind (cond (decide (0 < a0.c))
    (some true)
    (some ((a0.vs.length : Int) == 0))) (fun (v3 : Bool) => Option.bind (cond v3
    (Option.bind (m67 a0.c) fun (x6 : ((List UInt8))) =>
  guardO (Nat.ble ([x6]).length 1000000000)
  (some ([x6])))
    (some ([] : List ((List UInt8))))) (fun (v4 : (List ((List UInt8)))) => Option.bind (loopN (m33_l0 a0) FUEL (v4, 0)) (fun (o5 : (List ((List UInt8)))) => Option.bind (loopN (m33_l1 a0) FUEL (o5, (w64 ((a0.vs.length : Int) - 1)))) (fun (o6 : (List ((List UInt8)))) => cond ((o6.length : Int) == 1)
    (Option.bind (idx o6 0) fun (x8 : (List UInt8)) =>
  some (x8, 0))
    (Option.bind (loopN (m33_l2 o6) FUEL (([109, 97, 120, 40] : List UInt8), 0)) (fun (o9 : ((List UInt8))) => guardO (Nat.ble (o9.length + ([41] : List UInt8).length) 1000000000)
  (some ((o9 ++ ([41] : List UInt8)), 0))))))))))
set_option maxRecDepth 100000 in
set_option maxHeartbeats 8000000 in
theorem m33_ok (a0 : Lvl) (r : ((List UInt8)) × Int) (h0 : m33 a0 = some r) : Fun Tryz.prog 33 [.agg (cE a0)] (resOf [.one (dS8 r.1), .one (dI r.2)]) := by
  unfold m33 at h0
  refine Fun.of_bodyM 9 113 Tryz.func33 rfl en_33 rfl (lb rfl) (fun S w => ?_)
  simp only [entry]
  refine XC.seq ?_
  refine XC.region ?_
  refine XL.put rfl rfl (lb rfl) (OpOK.box rfl) ?_
  refine XL.rd rfl rfl (lb rfl) (RO.assign rfl) ?_
  refine XL.rd rfl rfl (lb rfl) (RO.assign rfl) ?_
  refine XL.nil ?_
  refine XQ.seq ?_
  refine XC.seq ?_
  refine XC.seq ?_
  refine XC.region ?_
  refine XL.rd rfl rfl (lb rfl) (RO.loadOwnAgg ag_24 rfl rfl rfl rfl) ?_
  refine guardK h0 (fun g1 h0 => ?_)
  refine XL.put rfl rfl (lb rfl) (OpOK.callFun (validR_fun a0 (Nat.le_of_ble_eq_true g1)) rfl (.cons (.agg (.cons (.d _) (.cons (.d _) .nil))) .nil)) ?_
  refine XL.rd rfl rfl (lb rfl) (RO.not rfl) ?_
  refine XL.nil ?_
  refine XQ.seq ?_
  refine XC.cond (b := (!(validB a0))) rfl (fun c2 => ?_) (fun c2 => ?_)
  ·
   replace h0 := condT c2 h0
   refine XC.seq ?_
   refine XC.region ?_
   refine XL.rd rfl rfl (lb rfl) (RO.assign rfl) ?_
   refine XL.rd rfl rfl (lb rfl) (RO.assign rfl) ?_
   refine XL.nil ?_
   refine XQ.seq ?_
   refine XC.ret ?_
   have e_ := Option.some.inj h0
   subst e_
   exact XQ.retF (fun _ _ h => h) rfl (RAs.tmp rfl (RAs.tmp rfl .nil)) (.cons (.one (.d _)) (.cons (.one (.d _)) .nil))
  ·
   replace h0 := condF c2 h0
   refine XC.skip ?_
   refine XQ.seq ?_
   refine XC.seq ?_
   refine XC.region ?_
   refine XL.rd rfl rfl (lb rfl) (RO.assign rfl) ?_
   refine XL.nil ?_
   refine XQ.seq ?_
   refine XC.seq ?_
   refine XC.seq ?_
   refine XC.joinR (fun (v3 : Bool) => ⟨[(1, .v (.one (.ptr 0 0))), (4, .v (.one (dN))), (20, .v (.one (dB v3)))], [(0, .cells 24 (cE a0))], [], 1, 113, []⟩) (fun (v3 : Bool) => (Option.bind (cond v3
       (Option.bind (m67 a0.c) fun (x6 : ((List UInt8))) =>
     guardO (Nat.ble ([x6]).length 1000000000)
     (some ([x6])))
       (some ([] : List ((List UInt8))))) (fun (v4 : (List ((List UInt8)))) => Option.bind (loopN (m33_l0 a0) FUEL (v4, 0)) (fun (o5 : (List ((List UInt8)))) => Option.bind (loopN (m33_l1 a0) FUEL (o5, (w64 ((a0.vs.length : Int) - 1)))) (fun (o6 : (List ((List UInt8)))) => cond ((o6.length : Int) == 1)
       (Option.bind (idx o6 0) fun (x8 : (List UInt8)) =>
     some (x8, 0))
       (Option.bind (loopN (m33_l2 o6) FUEL (([109, 97, 120, 40] : List UInt8), 0)) (fun (o9 : ((List UInt8))) => guardO (Nat.ble (o9.length + ([41] : List UInt8).length) 1000000000)
     (some ((o9 ++ ([41] : List UInt8)), 0)))))))) = some r) ?_ ?_
   ·
    refine bindK h0 (fun w1_ h1 h0 => ?_)
    refine XC.region ?_
    refine XL.rd rfl rfl (lb rfl) (RO.fieldOwn fo_24_0 rfl) ?_
    refine XL.rd rfl rfl (lb rfl) (RO.loadOwn ag_3 rfl rfl rfl) ?_
    refine XL.rd rfl rfl (lb rfl) (RO.binInt rfl rfl rfl) ?_
    refine XL.rd rfl rfl (lb rfl) (RO.move rfl) ?_
    refine XL.case (d := 15) (c := (decide (0 < a0.c))) rfl (fun c4 => ?_) (fun c4 => ?_)
    ·
     replace h1 := condT c4 h1
     refine XL.no rfl rfl ?_
     refine XL.no rfl rfl ?_
     refine XL.no rfl rfl ?_
     refine XL.no rfl rfl ?_
     refine XL.rd rfl rfl (lb rfl) (RO.pickT rfl rfl) ?_
     refine XL.nil ?_
     have e_ := Option.some.inj h1
     subst e_
     exact XQ.joinR true (stle (tR rfl (tR rfl (tR rfl tZ))) (hR rfl hZ) kZ rfl (Nat.zero_le _) rfl rfl rfl (bB rfl rfl bZ) rfl rfl) h0
    ·
     replace h1 := condF c4 h1
     refine XL.rd rfl rfl (lb rfl) (RO.fieldOwn fo_24_1 rfl) ?_
     refine XL.rd rfl rfl (lb rfl) (RO.loadOwn ag_22 rfl rfl rfl) ?_
     refine XL.rd rfl rfl (lb rfl) (RO.lenE (α := LV) sl_22 rfl (.d _)) ?_
     refine XL.rd rfl rfl (lb rfl) (RO.binInt rfl rfl rfl) ?_
     refine XL.rd rfl rfl (lb rfl) (RO.pickF rfl rfl) ?_
     refine XL.nil ?_
     have e_ := Option.some.inj h1
     subst e_
     exact XQ.joinR ((a0.vs.length : Int) == 0) (stle (tR rfl (tR rfl (tR rfl tZ))) (hR rfl hZ) kZ rfl (Nat.zero_le _) rfl rfl rfl (bB rfl rfl bZ) rfl rfl) h0
   ·
    intro v3 h0
    refine XQ.seq ?_
    refine XC.joinR (fun (v5 : (List ((List UInt8)))) => ⟨[(1, .v (.one (.ptr 0 0))), (4, .v (.one (dA 2 v5)))], [(0, .cells 24 (cE a0))], [(2, some ⟨9, 1, (Enc.encL v5).length⟩)], 3, 113, []⟩) (fun (v5 : (List ((List UInt8)))) => (Option.bind (loopN (m33_l0 a0) FUEL (v5, 0)) (fun (o6 : (List ((List UInt8)))) => Option.bind (loopN (m33_l1 a0) FUEL (o6, (w64 ((a0.vs.length : Int) - 1)))) (fun (o7 : (List ((List UInt8)))) => cond ((o7.length : Int) == 1)
        (Option.bind (idx o7 0) fun (x9 : (List UInt8)) =>
      some (x9, 0))
        (Option.bind (loopN (m33_l2 o7) FUEL (([109, 97, 120, 40] : List UInt8), 0)) (fun (o10 : ((List UInt8))) => guardO (Nat.ble (o10.length + ([41] : List UInt8).length) 1000000000)
      (some ((o10 ++ ([41] : List UInt8)), 0))))))) = some r) ?_ ?_
    ·
     refine bindK h0 (fun w1_ h1 h0 => ?_)
     refine XC.cond (b := v3) rfl (fun c6 => ?_) (fun c6 => ?_)
     ·
      replace h1 := condT c6 h1
      refine XC.region ?_
      refine XL.rd rfl rfl (lb rfl) (RO.move rfl) ?_
      refine XL.rd rfl rfl (lb rfl) (RO.fieldOwn fo_24_0 rfl) ?_
      refine XL.rd rfl rfl (lb rfl) (RO.loadOwn ag_3 rfl rfl rfl) ?_
      refine bindK h1 (fun x7 hx7 h1 => ?_)
      refine XL.put rfl rfl (lb rfl) (OpOK.callFun (m67_ok a0.c x7 hx7) rfl (.cons (.one (.d _)) .nil)) ?_
      refine XL.put rfl rfl (lb rfl) (OpOK.lit1E (α := (List UInt8)) (x7) sl_89 z_9 rfl rfl (lb rfl) (lb rfl) rfl rfl (.cons (.d _) .nil) rfl) ?_
      refine guardK h1 (fun g8 h1 => ?_)
      refine XL.put rfl rfl (lb rfl) (OpOK.appendNilE (α := (List UInt8)) sl_89 el_9 rfl rfl rfl (.app _ _) g8) ?_
      refine XL.rd rfl rfl (lb rfl) (RO.assign rfl) ?_
      refine XL.nil ?_
      have e_ := Option.some.inj h1
      subst e_
      exact XQ.joinR ([x7]) (stle (tR rfl (tR rfl tZ)) (hR rfl hZ) (kR rfl kZ) rfl (Nat.zero_le _) rfl rfl rfl (bB rfl rfl bZ) rfl rfl) h0
     ·
      replace h1 := condF c6 h1
      refine XC.skip ?_
      have e_ := Option.some.inj h1
      subst e_
      refine XQ.skipTo 2 (lb rfl) ?_
      refine XQ.adoptT (t := 4) 9 1 rfl ?_
      exact XQ.joinR ([] : List ((List UInt8))) (stle (tR rfl (tR rfl tZ)) (hR rfl hZ) (kR rfl kZ) rfl (Nat.zero_le _) rfl rfl rfl (bB rfl rfl bZ) rfl rfl) h0
    ·
     intro v5 h0
     refine XQ.seq ?_
     refine XC.seq ?_
     refine XC.seq ?_
     refine XC.region ?_
     refine XL.rd rfl rfl (lb rfl) (RO.assign rfl) ?_
     refine XL.nil ?_
     refine XQ.seq ?_
     refine XC.block ?_
     refine XC.joinX 0 (fun (o9 : (List ((List UInt8)))) => ⟨[(1, .v (.one (.ptr 0 0))), (4, .v (.one (dA 2 o9)))], [(0, .cells 24 (cE a0))], [(2, some ⟨9, 1, (Enc.encL o9).length⟩)], 3, 113, []⟩) (fun (o9 : (List ((List UInt8)))) => (Option.bind (loopN (m33_l1 a0) FUEL (o9, (w64 ((a0.vs.length : Int) - 1)))) (fun (o10 : (List ((List UInt8)))) => cond ((o10.length : Int) == 1)
         (Option.bind (idx o10 0) fun (x12 : (List UInt8)) =>
       some (x12, 0))
         (Option.bind (loopN (m33_l2 o10) FUEL (([109, 97, 120, 40] : List UInt8), 0)) (fun (o13 : ((List UInt8))) => guardO (Nat.ble (o13.length + ([41] : List UInt8).length) 1000000000)
       (some ((o13 ++ ([41] : List UInt8)), 0)))))) = some r) ?_ ?_
     ·
      refine bindK h0 (fun o10 hl1 h0 => ?_)
      refine XC.loopM (m33_l0 a0) (fun s1 => ⟨[(1, .v (.one (.ptr 0 0))), (4, .v (.one (dA 2 s1.1))), (5, .v (.one (dI s1.2)))], [(0, .cells 24 (cE a0))], [(2, some ⟨9, 1, (Enc.encL s1.1).length⟩)], 3, 113, []⟩) (v5, 0) o10 (stle (tR rfl (tR rfl (tR rfl tZ))) (hR rfl hZ) (kR rfl kZ) rfl (Nat.zero_le _) rfl rfl rfl (bB rfl rfl bZ) rfl rfl) hl1 (fun s1 n1 oo1 h1 ho1 => ?_)
      unfold m33_l0 at h1
      refine XC.seq ?_
      refine XC.seq ?_
      refine XC.region ?_
      refine XL.rd rfl rfl (lb rfl) (RO.move rfl) ?_
      refine XL.rd rfl rfl (lb rfl) (RO.fieldOwn fo_24_1 rfl) ?_
      refine XL.rd rfl rfl (lb rfl) (RO.loadOwn ag_22 rfl rfl rfl) ?_
      refine XL.rd rfl rfl (lb rfl) (RO.lenE (α := LV) sl_22 rfl (.d _)) ?_
      refine XL.rd rfl rfl (lb rfl) (RO.binInt rfl rfl rfl) ?_
      refine XL.nil ?_
      refine XQ.seq ?_
      refine XC.cond (b := (decide (s1.2 < (a0.vs.length : Int)))) rfl (fun c11 => ?_) (fun c11 => ?_)
      ·
       replace h1 := condT c11 h1
       refine XC.skip ?_
       refine XQ.seq ?_
       refine XC.seq ?_
       refine XC.block ?_
       refine XC.seq ?_
       refine XC.region ?_
       refine XL.rd rfl rfl (lb rfl) (RO.fieldOwn fo_24_1 rfl) ?_
       refine XL.rd rfl rfl (lb rfl) (RO.loadOwn ag_22 rfl rfl rfl) ?_
       refine XL.rd rfl rfl (lb rfl) (RO.move rfl) ?_
       refine bindK h1 (fun x12 hx12 h1 => ?_)
       refine XL.rd rfl rfl (lb rfl) (RO.indexE (α := LV) sl_22 rfl (.d _) rfl hx12) ?_
       refine XL.rd rfl rfl (lb rfl) (RO.fieldPel fo_69_0 rfl) ?_
       refine XL.rd rfl rfl (lb rfl) (RO.loadPel ag_3 rfl rfl) ?_
       refine XL.rd rfl rfl (lb rfl) (RO.binInt rfl rfl rfl) ?_
       refine XL.nil ?_
       refine XQ.seq ?_
       refine XC.cond (b := (decide (0 ≤ x12.1))) rfl (fun c13 => ?_) (fun c13 => ?_)
       ·
        replace h1 := condT c13 h1
        refine XC.anyRun [15] [] mixed (by kernel_rfl) (by kernel_rfl) (by kernel_rfl) ?_
        refine RunA.rd rfl rfl rfl (OpOK.of_ro (RO.move rfl)) rfl ?_
        refine RunA.rd rfl rfl rfl (OpOK.of_ro (RO.fieldOwn fo_24_1 rfl)) rfl ?_
        refine RunA.rd rfl rfl rfl (OpOK.of_ro (RO.loadOwn ag_22 rfl rfl rfl)) rfl ?_
        refine RunA.rd rfl rfl rfl (OpOK.of_ro (RO.move rfl)) rfl ?_
        refine bindK h1 (fun x14 hx14 h1 => ?_)
        refine RunA.rd rfl rfl rfl (OpOK.of_ro (RO.indexE (α := LV) sl_22 rfl (.d _) rfl hx14)) rfl ?_
        refine RunA.rd rfl rfl rfl (OpOK.of_ro (RO.fieldPel fo_69_0 rfl)) rfl ?_
        refine RunA.rd rfl rfl rfl (OpOK.of_ro (RO.loadPel ag_3 rfl rfl)) rfl ?_
        refine RunA.rd rfl rfl rfl (OpOK.of_ro (RO.fieldOwn fo_24_1 rfl)) rfl ?_
        refine RunA.rd rfl rfl rfl (OpOK.of_ro (RO.loadOwn ag_22 rfl rfl rfl)) rfl ?_
        refine RunA.rd rfl rfl rfl (OpOK.of_ro (RO.move rfl)) rfl ?_
        refine bindK h1 (fun x15 hx15 h1 => ?_)
        refine RunA.rd rfl rfl rfl (OpOK.of_ro (RO.indexE (α := LV) sl_22 rfl (.d _) rfl hx15)) rfl ?_
        refine RunA.rd rfl rfl rfl (OpOK.of_ro (RO.fieldPel fo_69_1 rfl)) rfl ?_
        refine RunA.rd rfl rfl rfl (OpOK.of_ro (RO.loadPel ag_3 rfl rfl)) rfl ?_
        refine bindK h1 (fun x16 hx16 h1 => ?_)
        refine RunA.rd rfl rfl rfl (OpOK.callFun (m68_ok ([117] : List UInt8) x14.1 x15.2 x16 hx16) rfl (.cons (.one (.d _)) (.cons (.one (.d _)) (.cons (.one (.d _)) .nil)))) rfl ?_
        refine RunA.rd rfl rfl rfl (OpOK.data1E (α := (List UInt8)) (x16) sl_89 z_9 rfl rfl (lb rfl) rfl rfl (.cons (.d _) .nil) rfl) rfl ?_
        refine guardK h1 (fun g17 h1 => ?_)
        refine RunA.eff rfl rfl rfl (OpOK.appendE (α := (List UInt8)) sl_89 el_9 rfl rfl rfl rfl rfl (.d _) g17) rfl ?_
        refine RunA.rd rfl rfl rfl (OpOK.of_ro (RO.assign rfl)) rfl ?_
        refine RunA.nil ⟨?ex, _, _, rfl, ?_⟩
        case ex => exact trivial
        refine XQ.less (st' := ⟨[(1, .v (.one (.ptr 0 0))), (4, .v (.one (dA 2 ((s1.1 ++ ([x16])) : List ((List UInt8)))))), (5, .v (.one (dI s1.2)))], [(0, .cells 24 (cE a0))], [(2, some ⟨9, 1, (Enc.encL ((s1.1 ++ ([x16])) : List ((List UInt8)))).length⟩)], 3, 113, []⟩) (stle (tR rfl (tR rfl (tR rfl tZ))) (hR rfl hZ) (kR rfl kZ) rfl (Nat.zero_le _) rfl rfl rfl (bB rfl rfl bZ) rfl rfl) ?_
        refine XQ.inBlock ?_
        refine XQ.seq ?_
        refine XC.region ?_
        refine XL.rd rfl rfl (lb rfl) (RO.move rfl) ?_
        refine XL.rd rfl rfl (lb rfl) (RO.binInt rfl rfl rfl) ?_
        refine XL.rd rfl rfl (lb rfl) (RO.assign rfl) ?_
        refine XL.nil ?_
        have e_ := Option.some.inj h1
        subst e_
        refine XQ.nextM ((s1.1 ++ ([x16])), (w64 (s1.2 + 1))) (stle (tR rfl (tR rfl (tR rfl tZ))) (hR rfl hZ) (kR rfl kZ) rfl (Nat.zero_le _) rfl rfl rfl (bB rfl rfl bZ) rfl rfl) ho1
       ·
        replace h1 := condF c13 h1
        refine XC.skip ?_
        refine XQ.inBlock ?_
        refine XQ.seq ?_
        refine XC.region ?_
        refine XL.rd rfl rfl (lb rfl) (RO.move rfl) ?_
        refine XL.rd rfl rfl (lb rfl) (RO.binInt rfl rfl rfl) ?_
        refine XL.rd rfl rfl (lb rfl) (RO.assign rfl) ?_
        refine XL.nil ?_
        have e_ := Option.some.inj h1
        subst e_
        refine XQ.nextM (s1.1, (w64 (s1.2 + 1))) (stle (tR rfl (tR rfl (tR rfl tZ))) (hR rfl hZ) (kR rfl kZ) rfl (Nat.zero_le _) rfl rfl rfl (bB rfl rfl bZ) rfl rfl) ho1
      ·
       replace h1 := condF c11 h1
       refine XC.exit ?_
       refine XQ.thenE ?_
       refine XQ.thenE ?_
       have e_ := Option.some.inj h1
       subst e_
       have e_ : _ = _ := ho1
       subst e_
       exact XQ.joinX s1.1 (stle (tR rfl (tR rfl tZ)) (hR rfl hZ) (kR rfl kZ) rfl (Nat.zero_le _) rfl rfl rfl (bB rfl rfl bZ) rfl rfl) h0
     ·
      intro o9 h0
      refine XQ.blockX ?_
      refine XQ.seq ?_
      refine XC.seq ?_
      refine XC.seq ?_
      refine XC.region ?_
      refine XL.rd rfl rfl (lb rfl) (RO.fieldOwn fo_24_1 rfl) ?_
      refine XL.rd rfl rfl (lb rfl) (RO.loadOwn ag_22 rfl rfl rfl) ?_
      refine XL.rd rfl rfl (lb rfl) (RO.lenE (α := LV) sl_22 rfl (.d _)) ?_
      refine XL.rd rfl rfl (lb rfl) (RO.binInt rfl rfl rfl) ?_
      refine XL.rd rfl rfl (lb rfl) (RO.assign rfl) ?_
      refine XL.nil ?_
      refine XQ.seq ?_
      refine XC.block ?_
      refine XC.joinX 2 (fun (o18 : (List ((List UInt8)))) => ⟨[(4, .v (.one (dA 2 o18)))], [(0, .cells 24 (cE a0))], [(2, some ⟨9, 1, (Enc.encL o18).length⟩)], 3, 113, []⟩) (fun (o18 : (List ((List UInt8)))) => (cond ((o18.length : Int) == 1)
          (Option.bind (idx o18 0) fun (x20 : (List UInt8)) =>
        some (x20, 0))
          (Option.bind (loopN (m33_l2 o18) FUEL (([109, 97, 120, 40] : List UInt8), 0)) (fun (o21 : ((List UInt8))) => guardO (Nat.ble (o21.length + ([41] : List UInt8).length) 1000000000)
        (some ((o21 ++ ([41] : List UInt8)), 0))))) = some r) ?_ ?_
      ·
       refine bindK h0 (fun o19 hl1 h0 => ?_)
       refine XC.loopM (m33_l1 a0) (fun s1 => ⟨[(1, .v (.one (.ptr 0 0))), (4, .v (.one (dA 2 s1.1))), (6, .v (.one (dI s1.2)))], [(0, .cells 24 (cE a0))], [(2, some ⟨9, 1, (Enc.encL s1.1).length⟩)], 3, 113, []⟩) (o9, (w64 ((a0.vs.length : Int) - 1))) o19 (stle (tR rfl (tR rfl (tR rfl tZ))) (hR rfl hZ) (kR rfl kZ) rfl (Nat.zero_le _) rfl rfl rfl (bB rfl rfl bZ) rfl rfl) hl1 (fun s1 n1 oo1 h1 ho1 => ?_)
       unfold m33_l1 at h1
       refine XC.seq ?_
       refine XC.seq ?_
       refine XC.region ?_
       refine XL.rd rfl rfl (lb rfl) (RO.move rfl) ?_
       refine XL.rd rfl rfl (lb rfl) (RO.binInt rfl rfl rfl) ?_
       refine XL.nil ?_
       refine XQ.seq ?_
       refine XC.cond (b := (decide (0 ≤ s1.2))) rfl (fun c20 => ?_) (fun c20 => ?_)
       ·
        replace h1 := condT c20 h1
        refine XC.skip ?_
        refine XQ.seq ?_
        refine XC.seq ?_
        refine XC.block ?_
        refine XC.seq ?_
        refine XC.region ?_
        refine XL.rd rfl rfl (lb rfl) (RO.fieldOwn fo_24_1 rfl) ?_
        refine XL.rd rfl rfl (lb rfl) (RO.loadOwn ag_22 rfl rfl rfl) ?_
        refine XL.rd rfl rfl (lb rfl) (RO.move rfl) ?_
        refine bindK h1 (fun x21 hx21 h1 => ?_)
        refine XL.rd rfl rfl (lb rfl) (RO.indexE (α := LV) sl_22 rfl (.d _) rfl hx21) ?_
        refine XL.rd rfl rfl (lb rfl) (RO.fieldPel fo_69_0 rfl) ?_
        refine XL.rd rfl rfl (lb rfl) (RO.loadPel ag_3 rfl rfl) ?_
        refine XL.rd rfl rfl (lb rfl) (RO.binInt rfl rfl rfl) ?_
        refine XL.nil ?_
        refine XQ.seq ?_
        refine XC.cond (b := (decide (x21.1 < 0))) rfl (fun c22 => ?_) (fun c22 => ?_)
        ·
         replace h1 := condT c22 h1
         refine XC.anyRun [16] [] mixed (by kernel_rfl) (by kernel_rfl) (by kernel_rfl) ?_
         refine RunA.rd rfl rfl rfl (OpOK.of_ro (RO.move rfl)) rfl ?_
         refine RunA.rd rfl rfl rfl (OpOK.of_ro (RO.fieldOwn fo_24_1 rfl)) rfl ?_
         refine RunA.rd rfl rfl rfl (OpOK.of_ro (RO.loadOwn ag_22 rfl rfl rfl)) rfl ?_
         refine RunA.rd rfl rfl rfl (OpOK.of_ro (RO.move rfl)) rfl ?_
         refine bindK h1 (fun x23 hx23 h1 => ?_)
         refine RunA.rd rfl rfl rfl (OpOK.of_ro (RO.indexE (α := LV) sl_22 rfl (.d _) rfl hx23)) rfl ?_
         refine RunA.rd rfl rfl rfl (OpOK.of_ro (RO.fieldPel fo_69_0 rfl)) rfl ?_
         refine RunA.rd rfl rfl rfl (OpOK.of_ro (RO.loadPel ag_3 rfl rfl)) rfl ?_
         refine RunA.rd rfl rfl rfl (OpOK.of_ro (RO.binInt rfl rfl rfl)) rfl ?_
         refine RunA.rd rfl rfl rfl (OpOK.of_ro (RO.fieldOwn fo_24_1 rfl)) rfl ?_
         refine RunA.rd rfl rfl rfl (OpOK.of_ro (RO.loadOwn ag_22 rfl rfl rfl)) rfl ?_
         refine RunA.rd rfl rfl rfl (OpOK.of_ro (RO.move rfl)) rfl ?_
         refine bindK h1 (fun x24 hx24 h1 => ?_)
         refine RunA.rd rfl rfl rfl (OpOK.of_ro (RO.indexE (α := LV) sl_22 rfl (.d _) rfl hx24)) rfl ?_
         refine RunA.rd rfl rfl rfl (OpOK.of_ro (RO.fieldPel fo_69_1 rfl)) rfl ?_
         refine RunA.rd rfl rfl rfl (OpOK.of_ro (RO.loadPel ag_3 rfl rfl)) rfl ?_
         refine bindK h1 (fun x25 hx25 h1 => ?_)
         refine RunA.rd rfl rfl rfl (OpOK.callFun (m68_ok ([63] : List UInt8) (w64 ((-1) - x23.1)) x24.2 x25 hx25) rfl (.cons (.one (.d _)) (.cons (.one (.d _)) (.cons (.one (.d _)) .nil)))) rfl ?_
         refine RunA.rd rfl rfl rfl (OpOK.data1E (α := (List UInt8)) (x25) sl_89 z_9 rfl rfl (lb rfl) rfl rfl (.cons (.d _) .nil) rfl) rfl ?_
         refine guardK h1 (fun g26 h1 => ?_)
         refine RunA.eff rfl rfl rfl (OpOK.appendE (α := (List UInt8)) sl_89 el_9 rfl rfl rfl rfl rfl (.d _) g26) rfl ?_
         refine RunA.rd rfl rfl rfl (OpOK.of_ro (RO.assign rfl)) rfl ?_
         refine RunA.nil ⟨?ex, _, _, rfl, ?_⟩
         case ex => exact trivial
         refine XQ.less (st' := ⟨[(1, .v (.one (.ptr 0 0))), (4, .v (.one (dA 2 ((s1.1 ++ ([x25])) : List ((List UInt8)))))), (6, .v (.one (dI s1.2)))], [(0, .cells 24 (cE a0))], [(2, some ⟨9, 1, (Enc.encL ((s1.1 ++ ([x25])) : List ((List UInt8)))).length⟩)], 3, 113, []⟩) (stle (tR rfl (tR rfl (tR rfl tZ))) (hR rfl hZ) (kR rfl kZ) rfl (Nat.zero_le _) rfl rfl rfl (bB rfl rfl bZ) rfl rfl) ?_
         refine XQ.inBlock ?_
         refine XQ.seq ?_
         refine XC.region ?_
         refine XL.rd rfl rfl (lb rfl) (RO.move rfl) ?_
         refine XL.rd rfl rfl (lb rfl) (RO.binInt rfl rfl rfl) ?_
         refine XL.rd rfl rfl (lb rfl) (RO.assign rfl) ?_
         refine XL.nil ?_
         have e_ := Option.some.inj h1
         subst e_
         refine XQ.nextM ((s1.1 ++ ([x25])), (w64 (s1.2 - 1))) (stle (tR rfl (tR rfl (tR rfl tZ))) (hR rfl hZ) (kR rfl kZ) rfl (Nat.zero_le _) rfl rfl rfl (bB rfl rfl bZ) rfl rfl) ho1
        ·
         replace h1 := condF c22 h1
         refine XC.skip ?_
         refine XQ.inBlock ?_
         refine XQ.seq ?_
         refine XC.region ?_
         refine XL.rd rfl rfl (lb rfl) (RO.move rfl) ?_
         refine XL.rd rfl rfl (lb rfl) (RO.binInt rfl rfl rfl) ?_
         refine XL.rd rfl rfl (lb rfl) (RO.assign rfl) ?_
         refine XL.nil ?_
         have e_ := Option.some.inj h1
         subst e_
         refine XQ.nextM (s1.1, (w64 (s1.2 - 1))) (stle (tR rfl (tR rfl (tR rfl tZ))) (hR rfl hZ) (kR rfl kZ) rfl (Nat.zero_le _) rfl rfl rfl (bB rfl rfl bZ) rfl rfl) ho1
       ·
        replace h1 := condF c20 h1
        refine XC.exit ?_
        refine XQ.thenE ?_
        refine XQ.thenE ?_
        have e_ := Option.some.inj h1
        subst e_
        have e_ : _ = _ := ho1
        subst e_
        exact XQ.joinX s1.1 (stle (tR rfl tZ) (hR rfl hZ) (kR rfl kZ) rfl (Nat.zero_le _) rfl rfl rfl (bB rfl rfl bZ) rfl rfl) h0
      ·
       intro o18 h0
       refine XQ.blockX ?_
       refine XQ.seq ?_
       refine XC.seq ?_
       refine XC.seq ?_
       refine XC.region ?_
       refine XL.rd rfl rfl (lb rfl) (RO.move rfl) ?_
       refine XL.rd rfl rfl (lb rfl) (RO.lenE (α := (List UInt8)) sl_89 rfl (.app _ _)) ?_
       refine XL.rd rfl rfl (lb rfl) (RO.binInt rfl rfl rfl) ?_
       refine XL.nil ?_
       refine XQ.seq ?_
       refine XC.cond (b := ((o18.length : Int) == 1)) rfl (fun c27 => ?_) (fun c27 => ?_)
       ·
        replace h0 := condT c27 h0
        refine XC.seq ?_
        refine XC.region ?_
        refine XL.rd rfl rfl (lb rfl) (RO.move rfl) ?_
        refine bindK h0 (fun x28 hx28 h0 => ?_)
        refine XL.rd rfl rfl (lb rfl) (RO.indexE (α := (List UInt8)) sl_89 rfl (.app _ _) rfl hx28) ?_
        refine XL.rd rfl rfl (lb rfl) (RO.loadPel ag_9 rfl rfl) ?_
        refine XL.rd rfl rfl (lb rfl) (RO.assign rfl) ?_
        refine XL.rd rfl rfl (lb rfl) (RO.assign rfl) ?_
        refine XL.nil ?_
        refine XQ.seq ?_
        refine XC.ret ?_
        have e_ := Option.some.inj h0
        subst e_
        exact XQ.retF (fun _ _ h => h) rfl (RAs.tmp rfl (RAs.tmp rfl .nil)) (.cons (.one (.d _)) (.cons (.one (.d _)) .nil))
       ·
        replace h0 := condF c27 h0
        refine XC.skip ?_
        refine XQ.seq ?_
        refine XC.seq ?_
        refine XC.region ?_
        refine XL.rd rfl rfl (lb rfl) (RO.assign rfl) ?_
        refine XL.nil ?_
        refine XQ.seq ?_
        refine XC.seq ?_
        refine XC.seq ?_
        refine XC.region ?_
        refine XL.rd rfl rfl (lb rfl) (RO.assign rfl) ?_
        refine XL.nil ?_
        refine XQ.seq ?_
        refine XC.block ?_
        refine XC.joinX 4 (fun (o29 : ((List UInt8))) => ⟨[(7, .v (.one (dS8 o29)))], [(0, .cells 24 (cE a0))], [(2, some ⟨9, 1, (Enc.encL o18).length⟩)], 3, 113, []⟩) (fun (o29 : ((List UInt8))) => (guardO (Nat.ble (o29.length + ([41] : List UInt8).length) 1000000000)
          (some ((o29 ++ ([41] : List UInt8)), 0))) = some r) ?_ ?_
        ·
         refine bindK h0 (fun o30 hl1 h0 => ?_)
         refine XC.loopM (m33_l2 o18) (fun s1 => ⟨[(4, .v (.one (dA 2 o18))), (7, .v (.one (dS8 s1.1))), (8, .v (.one (dI s1.2)))], [(0, .cells 24 (cE a0))], [(2, some ⟨9, 1, (Enc.encL o18).length⟩)], 3, 113, []⟩) (([109, 97, 120, 40] : List UInt8), 0) o30 (stle (tR rfl (tR rfl (tR rfl tZ))) (hR rfl hZ) (kR rfl kZ) rfl (Nat.zero_le _) rfl rfl rfl (bB rfl rfl bZ) rfl rfl) hl1 (fun s1 n1 oo1 h1 ho1 => ?_)
         unfold m33_l2 at h1
         refine XC.seq ?_
         refine XC.seq ?_
         refine XC.region ?_
         refine XL.rd rfl rfl (lb rfl) (RO.move rfl) ?_
         refine XL.rd rfl rfl (lb rfl) (RO.move rfl) ?_
         refine XL.rd rfl rfl (lb rfl) (RO.lenE (α := (List UInt8)) sl_89 rfl (.app _ _)) ?_
         refine XL.rd rfl rfl (lb rfl) (RO.binInt rfl rfl rfl) ?_
         refine XL.nil ?_
         refine XQ.seq ?_
         refine XC.cond (b := (decide (s1.2 < (o18.length : Int)))) rfl (fun c31 => ?_) (fun c31 => ?_)
         ·
          replace h1 := condT c31 h1
          refine XC.skip ?_
          refine XQ.seq ?_
          refine XC.seq ?_
          refine XC.block ?_
          refine XC.seq ?_
          refine XC.seq ?_
          refine XC.region ?_
          refine XL.rd rfl rfl (lb rfl) (RO.move rfl) ?_
          refine XL.rd rfl rfl (lb rfl) (RO.binInt rfl rfl rfl) ?_
          refine XL.nil ?_
          refine XQ.seq ?_
          refine XC.joinR (fun (v32 : ((List UInt8))) => ⟨[(4, .v (.one (dA 2 o18))), (7, .v (.one (dS8 v32))), (8, .v (.one (dI s1.2)))], [(0, .cells 24 (cE a0))], [(2, some ⟨9, 1, (Enc.encL o18).length⟩)], 3, 113, []⟩) (fun (v32 : ((List UInt8))) => (Option.bind (idx o18 s1.2) fun (x33 : (List UInt8)) =>
            guardO (Nat.ble (v32.length + x33.length) 1000000000)
            (some (.next ((v32 ++ x33), (w64 (s1.2 + 1)))))) = some oo1) ?_ ?_
          ·
           refine bindK h1 (fun w2_ h2 h1 => ?_)
           refine XC.cond (b := (decide (0 < s1.2))) rfl (fun c33 => ?_) (fun c33 => ?_)
           ·
            replace h2 := condT c33 h2
            refine XC.region ?_
            refine XL.rd rfl rfl (lb rfl) (RO.move rfl) ?_
            refine guardK h2 (fun g34 h2 => ?_)
            refine XL.rd rfl rfl (lb rfl) (RO.addS rfl rfl g34) ?_
            refine XL.rd rfl rfl (lb rfl) (RO.assign rfl) ?_
            refine XL.nil ?_
            have e_ := Option.some.inj h2
            subst e_
            exact XQ.joinR (s1.1 ++ ([44, 32] : List UInt8)) (stle (tR rfl (tR rfl (tR rfl tZ))) (hR rfl hZ) (kR rfl kZ) rfl (Nat.zero_le _) rfl rfl rfl (bB rfl rfl bZ) rfl rfl) h1
           ·
            replace h2 := condF c33 h2
            refine XC.skip ?_
            have e_ := Option.some.inj h2
            subst e_
            exact XQ.joinR s1.1 (stle (tR rfl (tR rfl (tR rfl tZ))) (hR rfl hZ) (kR rfl kZ) rfl (Nat.zero_le _) rfl rfl rfl (bB rfl rfl bZ) rfl rfl) h1
          ·
           intro v32 h1
           refine XQ.seq ?_
           refine XC.region ?_
           refine XL.rd rfl rfl (lb rfl) (RO.move rfl) ?_
           refine XL.rd rfl rfl (lb rfl) (RO.move rfl) ?_
           refine XL.rd rfl rfl (lb rfl) (RO.move rfl) ?_
           refine bindK h1 (fun x35 hx35 h1 => ?_)
           refine XL.rd rfl rfl (lb rfl) (RO.indexE (α := (List UInt8)) sl_89 rfl (.app _ _) rfl hx35) ?_
           refine XL.rd rfl rfl (lb rfl) (RO.loadPel ag_9 rfl rfl) ?_
           refine guardK h1 (fun g36 h1 => ?_)
           refine XL.rd rfl rfl (lb rfl) (RO.addS rfl rfl g36) ?_
           refine XL.rd rfl rfl (lb rfl) (RO.assign rfl) ?_
           refine XL.nil ?_
           refine XQ.inBlock ?_
           refine XQ.seq ?_
           refine XC.region ?_
           refine XL.rd rfl rfl (lb rfl) (RO.move rfl) ?_
           refine XL.rd rfl rfl (lb rfl) (RO.binInt rfl rfl rfl) ?_
           refine XL.rd rfl rfl (lb rfl) (RO.assign rfl) ?_
           refine XL.nil ?_
           have e_ := Option.some.inj h1
           subst e_
           refine XQ.nextM ((v32 ++ x35), (w64 (s1.2 + 1))) (stle (tR rfl (tR rfl (tR rfl tZ))) (hR rfl hZ) (kR rfl kZ) rfl (Nat.zero_le _) rfl rfl rfl (bB rfl rfl bZ) rfl rfl) ho1
         ·
          replace h1 := condF c31 h1
          refine XC.exit ?_
          refine XQ.thenE ?_
          refine XQ.thenE ?_
          have e_ := Option.some.inj h1
          subst e_
          have e_ : _ = _ := ho1
          subst e_
          exact XQ.joinX s1.1 (stle (tR rfl tZ) (hR rfl hZ) (kR rfl kZ) rfl (Nat.zero_le _) rfl rfl rfl (bB rfl rfl bZ) rfl rfl) h0
        ·
         intro o29 h0
         refine XQ.blockX ?_
         refine XQ.seq ?_
         refine XC.seq ?_
         refine XC.region ?_
         refine XL.rd rfl rfl (lb rfl) (RO.move rfl) ?_
         refine guardK h0 (fun g37 h0 => ?_)
         refine XL.rd rfl rfl (lb rfl) (RO.addS rfl rfl g37) ?_
         refine XL.rd rfl rfl (lb rfl) (RO.assign rfl) ?_
         refine XL.rd rfl rfl (lb rfl) (RO.assign rfl) ?_
         refine XL.nil ?_
         refine XQ.seq ?_
         refine XC.ret ?_
         have e_ := Option.some.inj h0
         subst e_
         exact XQ.retF (fun _ _ h => h) rfl (RAs.tmp rfl (RAs.tmp rfl .nil)) (.cons (.one (.d _)) (.cons (.one (.d _)) .nil))
end Go.Proofs.YtcapifnaceegmaaGreatDoor
namespace Go.Proofs.YtcapifnaceegmaaGreatDoor
open Go.RowKit Go.Shelf
set_option linter.unusedSimpArgs false
set_option linter.unusedVariables false
theorem en_31 : Enters Tryz.prog 31 := enters_of Tryz.func31 (by kernel_rfl) rfl
theorem en_62 : Enters Tryz.prog 62 := enters_of Tryz.func62 (by kernel_rfl) rfl
def m31_l0 (a0 : Lvl) (a1 : Lvl) (s3 : Int) : Option (LO Int (Unit ⊕ Bool)) :=
  cond (decide (s3 < (a0.vs.length : Int)))
    (Option.bind (idx a0.vs s3) fun (x8 : LV) =>
  Option.bind (idx a1.vs s3) fun (x9 : LV) =>
  cond (!((x8.1 == x9.1) && (x8.2 == x9.2)))
    (some (.done (.inr false)))
    (some (.next (w64 (s3 + 1)))))
    (some (.done (.inl ())))
def m31 (a0 : Lvl) (a1 : Lvl) : Option Bool :=
  Option.bind (cond (a0.c == a1.c)
    (Option.bind (cond ((a0.vs.length : Int) != (a1.vs.length : Int))
    (some false)
    (Option.bind (loopN (m31_l0 a0 a1) FUEL 0) (Sum.elim (fun (o6 : Unit) => some true) (fun o => some o)))) (fun (y3 : Bool) => some y3))
    (some false)) (fun (v1 : Bool) => some v1)
set_option maxRecDepth 100000 in
set_option maxHeartbeats 8000000 in
theorem m31_ok (a0 : Lvl) (a1 : Lvl) (r : Bool) (h0 : m31 a0 a1 = some r) : Fun Tryz.prog 31 [.agg (cE a0), .agg (cE a1)] (resOf [.one (dB r)]) := by
  unfold m31 at h0
  refine Fun.of_bodyM 9 17 Tryz.func31 rfl en_31 rfl (lb rfl) (fun S w => ?_)
  simp only [entry]
  refine XC.seq <| XC.region <| XL.put rfl rfl (lb rfl) (OpOK.box rfl) <| XL.put rfl rfl (lb rfl) (OpOK.box rfl) <| rA rfl rfl rfl <| XL.nil <| XQ.seq <| XC.seq ?_
  refine XC.joinR (fun (v1 : Bool) => ⟨[(4, .v (.one (dB v1)))], [(0, .cells 24 (cE a0)), (1, .cells 24 (cE a1))], [], 2, 17, []⟩) (fun (v1 : Bool) => (some v1) = some r) ?_ ?_
  ·
   refine bindK h0 (fun v_ h1 h0 => ?_)
   refine XC.region <| rR rfl rfl rfl (RO.fieldOwn fo_24_0 rfl) <| rR rfl rfl rfl (RO.loadOwn ag_3 rfl rfl rfl) <| rR rfl rfl rfl (RO.fieldOwn fo_24_0 rfl) <| rR rfl rfl rfl (RO.loadOwn ag_3 rfl rfl rfl) <| rR rfl rfl rfl (RO.binInt rfl rfl rfl) <| rM rfl rfl rfl ?_
   refine XL.case (d := 10) (c := (a0.c == a1.c)) rfl (fun c2 => ?_) (fun c2 => ?_)
   ·
    replace h1 := condT c2 h1
    refine rR rfl rfl rfl (RO.fieldOwn fo_24_1 rfl) <| rR rfl rfl rfl (RO.loadOwn ag_22 rfl rfl rfl) <| rR rfl rfl rfl (RO.fieldOwn fo_24_1 rfl) <| rR rfl rfl rfl (RO.loadOwn ag_22 rfl rfl rfl) ?_
    refine bindK h1 (fun y3 h2 h1 => ?_)
    have hc4 : CallM Tryz.prog 62 [.one (dS a0.vs), .one (dS a1.vs)] ⟨[(0, .cells 24 (cE a0)), (1, .cells 24 (cE a1))], [], 2⟩ (resOf [.one (dB y3)]) ⟨[(0, .cells 24 (cE a0)), (1, .cells 24 (cE a1))], [], 2⟩ := by
     refine CallM.of_bodyD ⟨[(4, .v (.one (dB y3)))], [(0, .cells 24 (cE a0)), (1, .cells 24 (cE a1))], [], 2, 26, []⟩ rfl rfl en_62 (lb rfl) rfl (RAs.tmp rfl .nil) (fun w0 M V0 Q hv2 hQ2 => ?_)
     simp only [entry]
     refine XC.seq <| XC.region <| rA rfl rfl rfl <| XL.nil <| XQ.seq <| XC.seq <| XC.seq <| XC.region <| rM rfl rfl rfl <| rR rfl rfl rfl (RO.lenE (α := LV) sl_22 rfl (.d _)) <| rM rfl rfl rfl <| rR rfl rfl rfl (RO.lenE (α := LV) sl_22 rfl (.d _)) <| rR rfl rfl rfl (RO.binInt rfl rfl rfl) <| XL.nil ?_
     refine XQ.seq ?_
     refine XC.cond (b := ((a0.vs.length : Int) != (a1.vs.length : Int))) rfl (fun c5 => ?_) (fun c5 => ?_)
     ·
      replace h2 := condT c5 h2
      refine XC.seq <| XC.region <| rA rfl rfl rfl <| XL.nil <| XQ.seq <| XC.ret ?_
      have e_ := Option.some.inj h2
      subst e_
      exact hQ2 _ _ _ (.inr rfl) rfl (stle (tR rfl tZ) (hR rfl (hR rfl hZ)) kZ rfl (Nat.le_trans hv2 (lb rfl)) rfl rfl rfl (bB rfl rfl (bB rfl rfl bZ)) rfl rfl)
     ·
      replace h2 := condF c5 h2
      refine XC.skip <| XQ.seq <| XC.seq <| XC.seq <| XC.region <| rM rfl rfl rfl <| rR rfl rfl rfl (RO.lenE (α := LV) sl_22 rfl (.d _)) <| rM rfl rfl rfl <| XL.nil <| XQ.seq <| XC.block ?_
      refine XC.joinX 0 (fun (o6 : Unit) => ⟨[], [(0, .cells 24 (cE a0)), (1, .cells 24 (cE a1))], [], 2, 26, []⟩) (fun (o6 : Unit) => (some true) = some y3) ?_ ?_
      ·
       refine bindK h2 (fun o7 hl3 h2 => ?_)
       refine XC.loopM (m31_l0 a0 a1) (fun s3 => ⟨[(0, .v (.one (dS a0.vs))), (1, .v (.one (dS a1.vs))), (12, .v (.one (dI (a0.vs.length : Int)))), (13, .v (.one (dI s3)))], [(0, .cells 24 (cE a0)), (1, .cells 24 (cE a1))], [], 2, 26, []⟩) 0 o7 (stle (tR rfl (tR rfl (tR rfl (tR rfl tZ)))) (hR rfl (hR rfl hZ)) kZ rfl (Nat.le_trans hv2 (lb rfl)) rfl rfl rfl (bB rfl rfl (bB rfl rfl bZ)) rfl rfl) hl3 (fun s3 n3 oo3 h3 ho3 => ?_)
       unfold m31_l0 at h3
       refine XC.seq <| XC.region <| rR rfl rfl rfl (RO.binInt rfl rfl rfl) <| XL.nil <| XQ.seq <| XC.seq ?_
       refine XC.cond (b := (decide (s3 < (a0.vs.length : Int)))) rfl (fun c8 => ?_) (fun c8 => ?_)
       ·
        replace h3 := condT c8 h3
        refine XC.skip <| XQ.seq <| XC.seq <| XC.block <| XC.seq <| XC.region <| rM rfl rfl rfl <| rA rfl rfl rfl <| XL.nil <| XQ.seq <| XC.seq ?_
        refine XC.anyRun [] [] mixed (by kernel_rfl) (by kernel_rfl) (by kernel_rfl) ?_
        refine RunA.rd rfl rfl rfl (OpOK.of_ro (RO.move rfl)) rfl <| RunA.rd rfl rfl rfl (OpOK.of_ro (RO.move rfl)) rfl ?_
        refine bindK h3 (fun x9 hx9 h3 => ?_)
        refine RunA.rd rfl rfl rfl (OpOK.of_ro (RO.indexE (α := LV) sl_22 rfl (.d _) rfl hx9)) rfl <| RunA.rd rfl rfl rfl (OpOK.of_ro (RO.loadPelAgg ag_69 rfl rfl rfl)) rfl <| RunA.rd rfl rfl rfl (OpOK.of_ro (RO.move rfl)) rfl <| RunA.rd rfl rfl rfl (OpOK.of_ro (RO.move rfl)) rfl ?_
        refine bindK h3 (fun x10 hx10 h3 => ?_)
        refine RunA.rd rfl rfl rfl (OpOK.of_ro (RO.indexE (α := LV) sl_22 rfl (.d _) rfl hx10)) rfl <| RunA.rd rfl rfl rfl (OpOK.of_ro (RO.loadPelAgg ag_69 rfl rfl rfl)) rfl <| RunA.rd rfl rfl rfl (OpOK.of_ro (RO.neqPair ip_69 rfl rfl)) rfl ?_
        refine RunA.nil ⟨?ex, _, _, rfl, ?_⟩
        case ex => exact trivial
        refine XQ.less (st' := ⟨[(0, .v (.one (dS a0.vs))), (1, .v (.one (dS a1.vs))), (12, .v (.one (dI (a0.vs.length : Int)))), (13, .v (.one (dI s3))), (24, .v (.one (dB (!((x9.1 == x10.1) && (x9.2 == x10.2))))))], [(0, .cells 24 (cE a0)), (1, .cells 24 (cE a1))], [], 2, 26, []⟩) (stle (tR rfl (tR rfl (tR rfl (tR rfl (tR rfl tZ))))) (hR rfl (hR rfl hZ)) kZ rfl (Nat.le_trans hv2 (lb rfl)) rfl rfl rfl (bB rfl rfl (bB rfl rfl bZ)) rfl rfl) <| XQ.seq ?_
        refine XC.cond (b := (!((x9.1 == x10.1) && (x9.2 == x10.2)))) rfl (fun c11 => ?_) (fun c11 => ?_)
        ·
         replace h3 := condT c11 h3
         refine XC.seq <| XC.region <| rA rfl rfl rfl <| XL.nil <| XQ.seq <| XC.ret ?_
         have e_ := Option.some.inj h3
         subst e_
         have e_ : _ = _ := ho3
         subst e_
         try dsimp only [Sum.elim_inl, Sum.elim_inr] at h2
         have e_ := Option.some.inj h2
         subst e_
         exact hQ2 _ _ _ (.inr rfl) rfl (stle (tR rfl tZ) (hR rfl (hR rfl hZ)) kZ rfl (Nat.le_trans hv2 (lb rfl)) rfl rfl rfl (bB rfl rfl (bB rfl rfl bZ)) rfl rfl)
        ·
         replace h3 := condF c11 h3
         refine XC.skip <| XQ.inBlock <| XQ.seq <| XC.region <| rR rfl rfl rfl (RO.binInt rfl rfl rfl) <| rM rfl rfl rfl <| XL.nil ?_
         have e_ := Option.some.inj h3
         subst e_
         refine XQ.nextM (w64 (s3 + 1)) (stle (tR rfl (tR rfl (tR rfl (tR rfl tZ)))) (hR rfl (hR rfl hZ)) kZ rfl (Nat.le_trans hv2 (lb rfl)) rfl rfl rfl (bB rfl rfl (bB rfl rfl bZ)) rfl rfl) ho3
       ·
        replace h3 := condF c8 h3
        refine XC.exit <| XQ.thenE <| XQ.thenE ?_
        have e_ := Option.some.inj h3
        subst e_
        have e_ : _ = _ := ho3
        subst e_
        exact XQ.joinX () (stle tZ (hR rfl (hR rfl hZ)) kZ rfl (Nat.le_trans hv2 (lb rfl)) rfl rfl rfl (bB rfl rfl (bB rfl rfl bZ)) rfl rfl) h2
      ·
       intro o6 h2
       refine XQ.blockX <| XQ.seq <| XC.seq <| XC.region <| rA rfl rfl rfl <| XL.nil <| XQ.seq <| XC.ret ?_
       have e_ := Option.some.inj h2
       subst e_
       exact hQ2 _ _ _ (.inr rfl) rfl (stle (tR rfl tZ) (hR rfl (hR rfl hZ)) kZ rfl (Nat.le_trans hv2 (lb rfl)) rfl rfl rfl (bB rfl rfl (bB rfl rfl bZ)) rfl rfl)
    refine XL.put rfl rfl (lb rfl) (OpOK.callW rfl rfl rfl hc4 rfl (hR rfl (hR rfl hZ)) kZ) <| rR rfl rfl rfl (RO.pickT rfl rfl) <| rA rfl rfl rfl <| XL.nil ?_
    have e_ := Option.some.inj h1
    subst e_
    exact XQ.joinR y3 (stle (tR rfl tZ) (hR rfl (hR rfl hZ)) kZ rfl (Nat.zero_le _) rfl rfl rfl (bB rfl rfl (bB rfl rfl bZ)) rfl rfl) h0
   ·
    replace h1 := condF c2 h1
    refine XL.no rfl rfl <| XL.no rfl rfl <| XL.no rfl rfl <| XL.no rfl rfl <| XL.no rfl rfl <| rR rfl rfl rfl (RO.pickF rfl rfl) <| rA rfl rfl rfl <| XL.nil ?_
    have e_ := Option.some.inj h1
    subst e_
    exact XQ.joinR false (stle (tR rfl tZ) (hR rfl (hR rfl hZ)) kZ rfl (Nat.zero_le _) rfl rfl rfl (bB rfl rfl (bB rfl rfl bZ)) rfl rfl) h0
  ·
   intro v1 h0
   refine XQ.seq <| XC.ret ?_
   have e_ := Option.some.inj h0
   subst e_
   exact XQ.retF (fun _ _ h => h) rfl (RAs.tmp rfl .nil) (.cons (.one (.d _)) .nil)
end Go.Proofs.YtcapifnaceegmaaGreatDoor
namespace Go.Proofs.YtcapifnaceegmaaGreatDoor
open Go.RowKit Go.Shelf
set_option linter.unusedSimpArgs false
set_option linter.unusedVariables false
theorem en_8 : Enters Tryz.prog 8 := enters_of Tryz.func8 (by kernel_rfl) rfl
def m8 (a0 : Lvl) : Option Bool :=
  Option.bind (m13 ([a0])) fun (x1 : Bool) =>
  cond (!x1)
    (some true)
    (Option.bind (m32 a0) fun (x3 : ((List UInt8)) × Int) =>
  Option.bind (m33 a0) fun (x4 : ((List UInt8)) × Int) =>
  Option.bind (cond (!(x3.1 == x4.1))
    (some true)
    (some (x3.2 != x4.2))) (fun (v5 : Bool) => cond v5
    (some false)
    (cond (x3.2 != 0)
    (some true)
    (Option.bind (m26 x3.1) fun (x8 : Lvl × Int) =>
  Option.bind (cond (x8.2 == 0)
    (Option.bind (m31 a0 x8.1) fun (x11 : Bool) =>
  cond x11
    (Option.bind (m21 a0 x8.1) fun (x13 : Bool) =>
  cond x13
    (some true)
    (some false))
    (some false))
    (some false)) (fun (v9 : Bool) => some v9)))))
set_option maxRecDepth 100000 in
set_option maxHeartbeats 8000000 in
theorem m8_ok (a0 : Lvl) (r : Bool) (h0 : m8 a0 = some r) : Fun Tryz.prog 8 [.agg (cE a0)] (resOf [.one (dB r)]) := by
  unfold m8 at h0
  refine Fun.of_bodyM 9 55 Tryz.func8 rfl en_8 rfl (lb rfl) (fun S w => ?_)
  simp only [entry]
  refine XC.seq ?_
  refine XC.region ?_
  refine XL.put rfl rfl (lb rfl) (OpOK.box rfl) ?_
  refine XL.rd rfl rfl (lb rfl) (RO.assign rfl) ?_
  refine XL.nil ?_
  refine XQ.seq ?_
  refine XC.seq ?_
  refine XC.seq ?_
  refine XC.region ?_
  refine XL.rd rfl rfl (lb rfl) (RO.loadOwnAgg ag_24 rfl rfl rfl rfl) ?_
  refine XL.put rfl rfl (lb rfl) (OpOK.lit1E (α := Lvl) (a0) sl_55 z_24 rfl rfl (lb rfl) (lb rfl) rfl rfl (.cons (.d _) (.cons (.d _) .nil)) rfl) ?_
  refine bindK h0 (fun x1 hx1 h0 => ?_)
  refine XL.put rfl rfl (lb rfl) (OpOK.callFun (m13_ok ([a0]) x1 hx1) rfl (.cons (.one (.app _ _ _)) .nil)) ?_
  refine XL.rd rfl rfl (lb rfl) (RO.not rfl) ?_
  refine XL.nil ?_
  refine XQ.seq ?_
  refine XC.cond (b := (!x1)) rfl (fun c2 => ?_) (fun c2 => ?_)
  ·
   replace h0 := condT c2 h0
   refine XC.seq ?_
   refine XC.region ?_
   refine XL.put rfl rfl (lb rfl) (OpOK.callFun (awake_fun) rfl .nil) ?_
   refine XL.rd rfl rfl (lb rfl) (RO.assign rfl) ?_
   refine XL.nil ?_
   refine XQ.seq ?_
   refine XC.ret ?_
   have e_ := Option.some.inj h0
   subst e_
   exact XQ.retF (fun _ _ h => h) rfl (RAs.tmp rfl .nil) (.cons (.one (.d _)) .nil)
  ·
   replace h0 := condF c2 h0
   refine XC.skip ?_
   refine XQ.seq ?_
   refine XC.seq ?_
   refine XC.region ?_
   refine XL.rd rfl rfl (lb rfl) (RO.loadOwnAgg ag_24 rfl rfl rfl rfl) ?_
   refine bindK h0 (fun x3 hx3 h0 => ?_)
   refine XL.put rfl rfl (lb rfl) (OpOK.callFun (m32_ok a0 x3 hx3) rfl (.cons (.agg (.cons (.d _) (.cons (.d _) .nil))) .nil)) ?_
   refine XL.rd rfl rfl (lb rfl) (RO.move rfl) ?_
   refine XL.rd rfl rfl (lb rfl) (RO.extract rfl rfl) ?_
   refine XL.rd rfl rfl (lb rfl) (RO.extract rfl rfl) ?_
   refine XL.rd rfl rfl (lb rfl) (RO.assign rfl) ?_
   refine XL.rd rfl rfl (lb rfl) (RO.assign rfl) ?_
   refine XL.nil ?_
   refine XQ.seq ?_
   refine XC.seq ?_
   refine XC.region ?_
   refine XL.rd rfl rfl (lb rfl) (RO.loadOwnAgg ag_24 rfl rfl rfl rfl) ?_
   refine bindK h0 (fun x4 hx4 h0 => ?_)
   refine XL.put rfl rfl (lb rfl) (OpOK.callFun (m33_ok a0 x4 hx4) rfl (.cons (.agg (.cons (.d _) (.cons (.d _) .nil))) .nil)) ?_
   refine XL.rd rfl rfl (lb rfl) (RO.move rfl) ?_
   refine XL.rd rfl rfl (lb rfl) (RO.extract rfl rfl) ?_
   refine XL.rd rfl rfl (lb rfl) (RO.extract rfl rfl) ?_
   refine XL.rd rfl rfl (lb rfl) (RO.assign rfl) ?_
   refine XL.rd rfl rfl (lb rfl) (RO.assign rfl) ?_
   refine XL.nil ?_
   refine XQ.seq ?_
   refine XC.seq ?_
   refine XC.seq ?_
   refine XC.joinR (fun (v5 : Bool) => ⟨[(1, .v (.one (.ptr 0 0))), (3, .v (.one (dS8 x3.1))), (4, .v (.one (dI x3.2))), (31, .v (.one (dB v5)))], [(0, .cells 24 (cE a0))], [(1, some ⟨24, 2, (Enc.encL ([a0] : List Lvl)).length⟩)], 2, 55, []⟩) (fun (v5 : Bool) => (cond v5
       (some false)
       (cond (x3.2 != 0)
       (some true)
       (Option.bind (m26 x3.1) fun (x8 : Lvl × Int) =>
     Option.bind (cond (x8.2 == 0)
       (Option.bind (m31 a0 x8.1) fun (x11 : Bool) =>
     cond x11
       (Option.bind (m21 a0 x8.1) fun (x13 : Bool) =>
     cond x13
       (some true)
       (some false))
       (some false))
       (some false)) (fun (v9 : Bool) => some v9)))) = some r) ?_ ?_
   ·
    refine bindK h0 (fun w1_ h1 h0 => ?_)
    refine XC.region ?_
    refine XL.rd rfl rfl (lb rfl) (RO.move rfl) ?_
    refine XL.rd rfl rfl (lb rfl) (RO.move rfl) ?_
    refine XL.rd rfl rfl (lb rfl) (RO.neS rfl rfl) ?_
    refine XL.rd rfl rfl (lb rfl) (RO.move rfl) ?_
    refine XL.case (d := 27) (c := (!(x3.1 == x4.1))) rfl (fun c6 => ?_) (fun c6 => ?_)
    ·
     replace h1 := condT c6 h1
     refine XL.no rfl rfl ?_
     refine XL.no rfl rfl ?_
     refine XL.no rfl rfl ?_
     refine XL.rd rfl rfl (lb rfl) (RO.pickT rfl rfl) ?_
     refine XL.nil ?_
     have e_ := Option.some.inj h1
     subst e_
     exact XQ.joinR true (stle (tR rfl (tR rfl (tR rfl (tR rfl tZ)))) (hR rfl hZ) (kR rfl kZ) rfl (Nat.zero_le _) rfl rfl rfl (bB rfl rfl bZ) rfl rfl) h0
    ·
     replace h1 := condF c6 h1
     refine XL.rd rfl rfl (lb rfl) (RO.move rfl) ?_
     refine XL.rd rfl rfl (lb rfl) (RO.move rfl) ?_
     refine XL.rd rfl rfl (lb rfl) (RO.binInt rfl rfl rfl) ?_
     refine XL.rd rfl rfl (lb rfl) (RO.pickF rfl rfl) ?_
     refine XL.nil ?_
     have e_ := Option.some.inj h1
     subst e_
     exact XQ.joinR (x3.2 != x4.2) (stle (tR rfl (tR rfl (tR rfl (tR rfl tZ)))) (hR rfl hZ) (kR rfl kZ) rfl (Nat.zero_le _) rfl rfl rfl (bB rfl rfl bZ) rfl rfl) h0
   ·
    intro v5 h0
    refine XQ.seq ?_
    refine XC.cond (b := v5) rfl (fun c7 => ?_) (fun c7 => ?_)
    ·
     replace h0 := condT c7 h0
     refine XC.seq ?_
     refine XC.region ?_
     refine XL.rd rfl rfl (lb rfl) (RO.assign rfl) ?_
     refine XL.nil ?_
     refine XQ.seq ?_
     refine XC.ret ?_
     have e_ := Option.some.inj h0
     subst e_
     exact XQ.retF (fun _ _ h => h) rfl (RAs.tmp rfl .nil) (.cons (.one (.d _)) .nil)
    ·
     replace h0 := condF c7 h0
     refine XC.skip ?_
     refine XQ.seq ?_
     refine XC.seq ?_
     refine XC.seq ?_
     refine XC.region ?_
     refine XL.rd rfl rfl (lb rfl) (RO.move rfl) ?_
     refine XL.rd rfl rfl (lb rfl) (RO.binInt rfl rfl rfl) ?_
     refine XL.nil ?_
     refine XQ.seq ?_
     refine XC.cond (b := (x3.2 != 0)) rfl (fun c8 => ?_) (fun c8 => ?_)
     ·
      replace h0 := condT c8 h0
      refine XC.seq ?_
      refine XC.region ?_
      refine XL.put rfl rfl (lb rfl) (OpOK.callFun (awake_fun) rfl .nil) ?_
      refine XL.rd rfl rfl (lb rfl) (RO.assign rfl) ?_
      refine XL.nil ?_
      refine XQ.seq ?_
      refine XC.ret ?_
      have e_ := Option.some.inj h0
      subst e_
      exact XQ.retF (fun _ _ h => h) rfl (RAs.tmp rfl .nil) (.cons (.one (.d _)) .nil)
     ·
      replace h0 := condF c8 h0
      refine XC.skip ?_
      refine XQ.seq ?_
      refine XC.seq ?_
      refine XC.region ?_
      refine XL.rd rfl rfl (lb rfl) (RO.move rfl) ?_
      refine bindK h0 (fun x9 hx9 h0 => ?_)
      refine XL.put rfl rfl (lb rfl) (OpOK.callFun (m26_ok x3.1 x9 hx9) rfl (.cons (.one (.d _)) .nil)) ?_
      refine XL.rd rfl rfl (lb rfl) (RO.move rfl) ?_
      refine XL.rd rfl rfl (lb rfl) (RO.extract rfl rfl) ?_
      refine XL.rd rfl rfl (lb rfl) (RO.extract rfl rfl) ?_
      refine XL.put rfl rfl (lb rfl) (OpOK.alloc z_24 rfl) ?_
      refine XL.eff rfl rfl (OpOK.store ag_24 rfl rfl rfl rfl (lb rfl) rfl) ?_
      refine XL.rd rfl rfl (lb rfl) (RO.assign rfl) ?_
      refine XL.nil ?_
      refine XQ.seq ?_
      refine XC.seq ?_
      refine XC.joinR (fun (v10 : Bool) => ⟨[(2, .v (.one (dB v10)))], [(0, .cells 24 (cE a0)), (2, .cells 24 (cE x9.1))], [(1, some ⟨24, 2, (Enc.encL ([a0] : List Lvl)).length⟩)], 3, 55, []⟩) (fun (v10 : Bool) => (some v10) = some r) ?_ ?_
      ·
       refine bindK h0 (fun w1_ h1 h0 => ?_)
       refine XC.region ?_
       refine XL.rd rfl rfl (lb rfl) (RO.move rfl) ?_
       refine XL.rd rfl rfl (lb rfl) (RO.binInt rfl rfl rfl) ?_
       refine XL.rd rfl rfl (lb rfl) (RO.move rfl) ?_
       refine XL.case (d := 42) (c := (x9.2 == 0)) rfl (fun c11 => ?_) (fun c11 => ?_)
       ·
        replace h1 := condT c11 h1
        refine XL.rd rfl rfl (lb rfl) (RO.loadOwnAgg ag_24 rfl rfl rfl rfl) ?_
        refine XL.rd rfl rfl (lb rfl) (RO.loadOwnAgg ag_24 rfl rfl rfl rfl) ?_
        refine bindK h1 (fun x12 hx12 h1 => ?_)
        refine XL.put rfl rfl (lb rfl) (OpOK.callFun (m31_ok a0 x9.1 x12 hx12) rfl (.cons (.agg (.cons (.d _) (.cons (.d _) .nil))) (.cons (.agg (.cons (.d _) (.cons (.d _) .nil))) .nil))) ?_
        refine XL.rd rfl rfl (lb rfl) (RO.pickT rfl rfl) ?_
        refine XL.rd rfl rfl (lb rfl) (RO.move rfl) ?_
        refine XL.case (d := 47) (c := x12) rfl (fun c13 => ?_) (fun c13 => ?_)
        ·
         replace h1 := condT c13 h1
         refine XL.rd rfl rfl (lb rfl) (RO.loadOwnAgg ag_24 rfl rfl rfl rfl) ?_
         refine XL.rd rfl rfl (lb rfl) (RO.loadOwnAgg ag_24 rfl rfl rfl rfl) ?_
         refine bindK h1 (fun x14 hx14 h1 => ?_)
         refine XL.put rfl rfl (lb rfl) (OpOK.callFun (m21_ok a0 x9.1 x14 hx14) rfl (.cons (.agg (.cons (.d _) (.cons (.d _) .nil))) (.cons (.agg (.cons (.d _) (.cons (.d _) .nil))) .nil))) ?_
         refine XL.rd rfl rfl (lb rfl) (RO.pickT rfl rfl) ?_
         refine XL.rd rfl rfl (lb rfl) (RO.move rfl) ?_
         refine XL.case (d := 52) (c := x14) rfl (fun c15 => ?_) (fun c15 => ?_)
         ·
          replace h1 := condT c15 h1
          refine XL.put rfl rfl (lb rfl) (OpOK.callFun (awake_fun) rfl .nil) ?_
          refine XL.rd rfl rfl (lb rfl) (RO.pickT rfl rfl) ?_
          refine XL.rd rfl rfl (lb rfl) (RO.assign rfl) ?_
          refine XL.nil ?_
          have e_ := Option.some.inj h1
          subst e_
          exact XQ.joinR true (stle (tR rfl tZ) (hR rfl (hR rfl hZ)) (kR rfl kZ) rfl (Nat.zero_le _) rfl rfl rfl (bB rfl rfl (bB rfl rfl bZ)) rfl rfl) h0
         ·
          replace h1 := condF c15 h1
          refine XL.no rfl rfl ?_
          refine XL.rd rfl rfl (lb rfl) (RO.pickF rfl rfl) ?_
          refine XL.rd rfl rfl (lb rfl) (RO.assign rfl) ?_
          refine XL.nil ?_
          have e_ := Option.some.inj h1
          subst e_
          exact XQ.joinR false (stle (tR rfl tZ) (hR rfl (hR rfl hZ)) (kR rfl kZ) rfl (Nat.zero_le _) rfl rfl rfl (bB rfl rfl (bB rfl rfl bZ)) rfl rfl) h0
        ·
         replace h1 := condF c13 h1
         refine XL.no rfl rfl ?_
         refine XL.no rfl rfl ?_
         refine XL.no rfl rfl ?_
         refine XL.rd rfl rfl (lb rfl) (RO.pickF rfl rfl) ?_
         refine XL.rd rfl rfl (lb rfl) (RO.move rfl) ?_
         refine XL.no rfl rfl ?_
         refine XL.rd rfl rfl (lb rfl) (RO.pickF rfl rfl) ?_
         refine XL.rd rfl rfl (lb rfl) (RO.assign rfl) ?_
         refine XL.nil ?_
         have e_ := Option.some.inj h1
         subst e_
         exact XQ.joinR false (stle (tR rfl tZ) (hR rfl (hR rfl hZ)) (kR rfl kZ) rfl (Nat.zero_le _) rfl rfl rfl (bB rfl rfl (bB rfl rfl bZ)) rfl rfl) h0
       ·
        replace h1 := condF c11 h1
        refine XL.no rfl rfl ?_
        refine XL.no rfl rfl ?_
        refine XL.no rfl rfl ?_
        refine XL.rd rfl rfl (lb rfl) (RO.pickF rfl rfl) ?_
        refine XL.rd rfl rfl (lb rfl) (RO.move rfl) ?_
        refine XL.no rfl rfl ?_
        refine XL.no rfl rfl ?_
        refine XL.no rfl rfl ?_
        refine XL.rd rfl rfl (lb rfl) (RO.pickF rfl rfl) ?_
        refine XL.rd rfl rfl (lb rfl) (RO.move rfl) ?_
        refine XL.no rfl rfl ?_
        refine XL.rd rfl rfl (lb rfl) (RO.pickF rfl rfl) ?_
        refine XL.rd rfl rfl (lb rfl) (RO.assign rfl) ?_
        refine XL.nil ?_
        have e_ := Option.some.inj h1
        subst e_
        exact XQ.joinR false (stle (tR rfl tZ) (hR rfl (hR rfl hZ)) (kR rfl kZ) rfl (Nat.zero_le _) rfl rfl rfl (bB rfl rfl (bB rfl rfl bZ)) rfl rfl) h0
      ·
       intro v10 h0
       refine XQ.seq ?_
       refine XC.ret ?_
       have e_ := Option.some.inj h0
       subst e_
       exact XQ.retF (fun _ _ h => h) rfl (RAs.tmp rfl .nil) (.cons (.one (.d _)) .nil)
end Go.Proofs.YtcapifnaceegmaaGreatDoor
namespace Go.Proofs.YtcapifnaceegmaaGreatDoor
open Go.RowKit
set_option linter.unusedSimpArgs false
set_option linter.unusedVariables false
theorem m31_eq {A B : Lvl} (hA : A.vs.length ≤ 900000) : m31 A B = some (sameB A B) := by
  unfold m31 sameB
  by_cases hc : A.c = B.c
  · have e2 : (A.c == B.c) = true := by rw [hc]; exact beq_self_eq_true _
    rw [e2, cond_true]
    by_cases hl : A.vs.length = B.vs.length
    · have e3 : ((A.vs.length : Int) != (B.vs.length : Int)) = false := by rw [hl]; exact bne_self_eq_false _
      rw [e3, cond_false]
      have key := same_loop (step := m31_l0 A B) hl hA (fun k x y hx hy => by
        have hk := (List.getElem?_eq_some_iff.1 hx).1
        unfold m31_l0
        rw [decide_eq_true (by omega : (k : Int) < A.vs.length), cond_true, idx_nat (Int.natCast_nonneg _) (by simpa using hx), Option.bind_some, idx_nat (Int.natCast_nonneg _) (by simpa using hy), Option.bind_some]
        cases (!((x.1 == y.1) && (x.2 == y.2))) <;> rfl) (by unfold m31_l0; rw [decide_eq_false (by omega), cond_false])
      rw [key]
      by_cases h : A.vs = B.vs
      · rw [if_pos h, decide_eq_true h]; rfl
      · rw [if_neg h, decide_eq_false h]; rfl
    · have e3 : ((A.vs.length : Int) != (B.vs.length : Int)) = true := by simpa using fun h => hl (by omega)
      rw [e3, cond_true, decide_eq_false (fun h => hl (by rw [h]))]; rfl
  · have e2 : (A.c == B.c) = false := by simpa using hc
    rw [e2, cond_false, Bool.false_and]; rfl
end Go.Proofs.YtcapifnaceegmaaGreatDoor
namespace Go.Proofs.YtcapifnaceegmaaGreatDoor
open Go.RowKit
set_option linter.unusedSimpArgs false
set_option linter.unusedVariables false
theorem guardT {α : Type} {b : Bool} {x : Option α} (h : b = true) : guardO b x = x := by unfold guardO; rw [h]; rfl
theorem byt_dig {k : Int} {n : Nat} (h0 : IntKind.wrap .u8 k = (n : Int)) (hn : n < 10) : ([(⟨(IntKind.wrap .u8 (48 + (IntKind.wrap .u8 k)))⟩ : Byt)]).map Byt.u8 = [UInt8.ofNat (48 + n)] := by
  rw [h0]
  have : IntKind.wrap .u8 (48 + (n : Int)) = ((48 + n : Nat) : Int) := by
    have : n = 0 ∨ n = 1 ∨ n = 2 ∨ n = 3 ∨ n = 4 ∨ n = 5 ∨ n = 6 ∨ n = 7 ∨ n = 8 ∨ n = 9 := by omega
    rcases this with rfl | rfl | rfl | rfl | rfl | rfl | rfl | rfl | rfl | rfl <;> rfl
  rw [this]
  rfl
theorem wrap_dig {n : Nat} (hn : n < 10) : IntKind.wrap .u8 (n : Int) = (n : Int) := by
  have : n = 0 ∨ n = 1 ∨ n = 2 ∨ n = 3 ∨ n = 4 ∨ n = 5 ∨ n = 6 ∨ n = 7 ∨ n = 8 ∨ n = 9 := by omega
  rcases this with rfl | rfl | rfl | rfl | rfl | rfl | rfl | rfl | rfl | rfl <;> rfl
theorem m67_rec : ∀ (f n : Nat), n < 10 ^ f → n < 1000000 → recO m67F f (n : Int) = some (dec n) ∨ (f = 0)
  | 0, n, h, hn => .inr rfl
  | f + 1, n, h, hn => by
    refine .inl ?_
    show m67s (recO m67F f) (n : Int) = _
    unfold m67s
    by_cases h1 : n < 10
    · rw [decide_eq_true (by omega : (n : Int) < 10), cond_true, byt_dig (wrap_dig h1) h1, dec_lt h1]
    · rw [decide_eq_false (by omega : ¬ (n : Int) < 10), cond_false]
      have ed : Int.tdiv (n : Int) 10 = ((n / 10 : Nat) : Int) := rfl
      have em : Int.tmod (n : Int) 10 = ((n % 10 : Nat) : Int) := rfl
      rw [ed, em, w64_id (by omega) (by omega)]
      have hr : recO m67F f ((n / 10 : Nat) : Int) = some (dec (n / 10)) := by
        rcases m67_rec f (n / 10) (by rw [Nat.pow_succ] at h; omega) (by omega) with h2 | h2
        · exact h2
        · subst h2; omega
      rw [hr, Option.bind_some, byt_dig (wrap_dig (by omega : n % 10 < 10)) (by omega)]
      rw [guardT (Nat.ble_eq_true_of_le (by
        have := dec_len 5 (n / 10) (by omega)
        simp only [List.length_cons, List.length_nil]; omega)), ← dec_ge h1]
theorem m67_eq {a : Int} (h0 : 0 ≤ a) (h1 : a < 1000000) : m67 a = some (dec a.toNat) := by
  obtain ⟨n, rfl⟩ := Int.eq_ofNat_of_zero_le h0
  have hn : n < 1000000 := by omega
  rw [Int.toNat_natCast]
  unfold m67
  rcases m67_rec FUEL n (Nat.lt_of_lt_of_le (by omega : n < 10 ^ 6) (Nat.pow_le_pow_right (by omega) (by unfold FUEL; omega))) hn with h2 | h2
  · exact h2
  · unfold FUEL at h2; omega
theorem itoa_nn {a : Int} (h0 : 0 ≤ a) : Lib.itoa a = dec a.toNat := by unfold Lib.itoa; rw [if_neg (by omega)]
theorem dec_small {a : Int} (h1 : a < 1000000) : (dec a.toNat).length ≤ 6 := dec_len 5 _ (by omega)
theorem m64_eq {c : UInt8} {a p : Int} (h0 : 0 ≤ a) (h1 : a < 1000000) (p0 : 0 ≤ p) (p1 : p ≤ 100) : m64 [c] a p = some (varT c a.toNat p) := by
  have la := dec_small h1
  have lp := dec_small (a := p) (by omega)
  unfold m64 varT plusT
  rw [itoa_nn h0, itoa_nn p0]
  rw [guardT (by rw [decide_eq_true (by omega), decide_eq_true (by omega)]; rfl), guardT (Nat.ble_eq_true_of_le (by simp only [List.length_cons, List.length_nil]; omega))]
  by_cases hp : 0 < p
  · rw [decide_eq_true hp, cond_true, if_pos hp]
    rw [guardT (by rw [decide_eq_true (by omega), decide_eq_true (by omega)]; rfl), guardT (Nat.ble_eq_true_of_le (by simp only [List.length_cons, List.length_nil]; omega)), guardT (Nat.ble_eq_true_of_le (by simp only [List.length_append, List.length_cons, List.length_nil]; omega))]
    simp
  · rw [decide_eq_false hp, cond_false, if_neg hp]
    simp
theorem m68_eq {c : UInt8} {a p : Int} (h0 : 0 ≤ a) (h1 : a < 1000000) (p0 : 0 ≤ p) (p1 : p ≤ 100) : m68 [c] a p = some (varT c a.toNat p) := by
  have la := dec_small h1
  have lp := dec_small (a := p) (by omega)
  unfold m68 varT plusT
  rw [m67_eq h0 h1, Option.bind_some]
  rw [guardT (Nat.ble_eq_true_of_le (by simp only [List.length_cons, List.length_nil]; omega))]
  by_cases hp : 0 < p
  · rw [decide_eq_true hp, cond_true, if_pos hp, m67_eq p0 (by omega), Option.bind_some]
    rw [guardT (Nat.ble_eq_true_of_le (by simp only [List.length_cons, List.length_nil]; omega)), guardT (Nat.ble_eq_true_of_le (by simp only [List.length_append, List.length_cons, List.length_nil]; omega))]
    simp
  · rw [decide_eq_false hp, cond_false, if_neg hp]
    simp
theorem varX_pos {x : LV} (h : 0 ≤ x.1) : varX x = varT 117 x.1.toNat x.2 := by unfold varX; rw [if_pos h]
theorem varX_neg {x : LV} (h : x.1 < 0) : varX x = varT 63 (-1 - x.1).toNat x.2 := by unfold varX; rw [if_neg (by omega)]
abbrev posV (vs : List LV) : List Bs := (vs.filter fun x => decide (0 ≤ x.1)).map varX
abbrev negV (vs : List LV) : List Bs := (vs.filter fun x => decide (x.1 < 0)).map varX
theorem posV_cons (x : LV) (vs : List LV) : posV (x :: vs) = (if 0 ≤ x.1 then [varX x] else []) ++ posV vs := by
  unfold posV
  rw [List.filter_cons]
  by_cases h : 0 ≤ x.1
  · rw [if_pos (decide_eq_true h), if_pos h]; rfl
  · rw [if_neg (by simpa using h), if_neg h]; rfl
theorem negV_cons (x : LV) (vs : List LV) : negV (x :: vs) = (if x.1 < 0 then [varX x] else []) ++ negV vs := by
  unfold negV
  rw [List.filter_cons]
  by_cases h : x.1 < 0
  · rw [if_pos (decide_eq_true h), if_pos h]; rfl
  · rw [if_neg (by simpa using h), if_neg h]; rfl
theorem dropAt {α : Type} {l : List α} {k : Nat} {x : α} (h : l[k]? = some x) : l.drop k = x :: l.drop (k + 1) := by
  obtain ⟨hk, e⟩ := List.getElem?_eq_some_iff.1 h
  rw [List.drop_eq_getElem_cons hk, e]
theorem take_at {α : Type} {l : List α} {k : Nat} {x : α} (h : l[k]? = some x) : (l.take (k + 1)).reverse = x :: (l.take k).reverse := by
  obtain ⟨hk, e⟩ := List.getElem?_eq_some_iff.1 h
  rw [List.take_add_one, h, List.reverse_append]
  rfl
section
variable {l : Lvl} (hv : validB l = true) (hl : l.vs.length ≤ 12)
include hv hl
theorem text_l0 (k : Nat) (acc : List Bs) (hk : k ≤ l.vs.length) (ha : acc.length ≤ 20 + k) : loopN (m32_l0 l) FUEL ((k : Int), acc) = some (acc ++ posV (l.vs.drop k)) := by
  refine (loop_spec (step := m32_l0 l) (fun s => ∃ j : Nat, s.1 = (j : Int) ∧ j ≤ l.vs.length ∧ s.2.length ≤ 20 + j) (fun s => l.vs.length - s.1.toNat) (fun s => s.2 ++ posV (l.vs.drop s.1.toNat)) ?_ FUEL ((k : Int), acc) ⟨k, rfl, hk, ha⟩ ?_).trans (by rw [Int.toNat_natCast])
  · rintro ⟨i, ac⟩ ⟨j, rfl, hj, hb⟩
    dsimp only at hb ⊢
    rw [Int.toNat_natCast]
    by_cases hlt : j < l.vs.length
    · refine .inr ?_
      obtain ⟨x, hx⟩ : ∃ x, l.vs[j]? = some x := ⟨_, List.getElem?_eq_getElem hlt⟩
      have ok := okV_valid hv (List.mem_of_getElem? hx)
      obtain ⟨o1, o2, o3, o4⟩ := ok
      unfold m32_l0
      rw [decide_eq_true (by omega : (j : Int) < l.vs.length), cond_true, idx_nat (Int.natCast_nonneg _) (by simpa using hx), Option.bind_some, w64_next hlt (by omega), dropAt hx, posV_cons]
      by_cases h0 : 0 ≤ x.1
      · rw [decide_eq_true h0, cond_true, m64_eq h0 (by omega) o3 o4, Option.bind_some, guardT (Nat.ble_eq_true_of_le (by simp only [List.length_cons, List.length_nil]; omega)), if_pos h0, varX_pos h0]
        exact ⟨_, rfl, ⟨j + 1, rfl, hlt, by simp only [List.length_append, List.length_cons, List.length_nil]; omega⟩, by simp only [Int.toNat_natCast]; omega, by simp only [Int.toNat_natCast]; simp⟩
      · rw [decide_eq_false h0, cond_false, if_neg h0]
        exact ⟨_, rfl, ⟨j + 1, rfl, hlt, by dsimp only; omega⟩, by simp only [Int.toNat_natCast]; omega, by simp only [Int.toNat_natCast]; simp⟩
    · refine .inl ?_
      unfold m32_l0
      rw [decide_eq_false (by omega), cond_false, List.drop_eq_nil_of_le (by omega)]
      simp
  · simp only [Int.toNat_natCast]; unfold FUEL; omega
theorem ref_l0 (k : Nat) (acc : List Bs) (hk : k ≤ l.vs.length) (ha : acc.length ≤ 20 + k) : loopN (m33_l0 l) FUEL (acc, (k : Int)) = some (acc ++ posV (l.vs.drop k)) := by
  refine (loop_spec (step := m33_l0 l) (fun s => ∃ j : Nat, s.2 = (j : Int) ∧ j ≤ l.vs.length ∧ s.1.length ≤ 20 + j) (fun s => l.vs.length - s.2.toNat) (fun s => s.1 ++ posV (l.vs.drop s.2.toNat)) ?_ FUEL (acc, (k : Int)) ⟨k, rfl, hk, ha⟩ ?_).trans (by rw [Int.toNat_natCast])
  · rintro ⟨ac, i⟩ ⟨j, rfl, hj, hb⟩
    dsimp only at hb ⊢
    rw [Int.toNat_natCast]
    by_cases hlt : j < l.vs.length
    · refine .inr ?_
      obtain ⟨x, hx⟩ : ∃ x, l.vs[j]? = some x := ⟨_, List.getElem?_eq_getElem hlt⟩
      have ok := okV_valid hv (List.mem_of_getElem? hx)
      obtain ⟨o1, o2, o3, o4⟩ := ok
      unfold m33_l0
      rw [decide_eq_true (by omega : (j : Int) < l.vs.length), cond_true]
      dsimp only
      rw [idx_nat (Int.natCast_nonneg _) (by simpa using hx), Option.bind_some, w64_next hlt (by omega), dropAt hx, posV_cons]
      by_cases h0 : 0 ≤ x.1
      · rw [decide_eq_true h0, cond_true, Option.bind_some, Option.bind_some, m68_eq h0 (by omega) o3 o4, Option.bind_some, guardT (Nat.ble_eq_true_of_le (by simp only [List.length_cons, List.length_nil]; omega)), if_pos h0, varX_pos h0]
        exact ⟨_, rfl, ⟨j + 1, rfl, hlt, by simp only [List.length_append, List.length_cons, List.length_nil]; omega⟩, by simp only [Int.toNat_natCast]; omega, by simp only [Int.toNat_natCast]; simp⟩
      · rw [decide_eq_false h0, cond_false, if_neg h0]
        exact ⟨_, rfl, ⟨j + 1, rfl, hlt, by dsimp only; omega⟩, by simp only [Int.toNat_natCast]; omega, by simp only [Int.toNat_natCast]; simp⟩
    · refine .inl ?_
      unfold m33_l0
      rw [decide_eq_false (by omega), cond_false, List.drop_eq_nil_of_le (by omega)]
      simp
  · simp only [Int.toNat_natCast]; unfold FUEL; omega
theorem text_l1 (acc : List Bs) (ha : acc.length ≤ 100) : loopN (m32_l1 l) FUEL ((l.vs.length : Int) - 1, acc) = some (acc ++ negV l.vs.reverse) := by
  refine (loop_spec (step := m32_l1 l) (fun s => ∃ j : Nat, s.1 = (j : Int) - 1 ∧ j ≤ l.vs.length ∧ s.2.length + j ≤ 200) (fun s => (s.1 + 1).toNat) (fun s => s.2 ++ negV (l.vs.take (s.1 + 1).toNat).reverse) ?_ FUEL ((l.vs.length : Int) - 1, acc) ⟨l.vs.length, rfl, Nat.le_refl _, by dsimp only; omega⟩ ?_).trans (by
    rw [show ((l.vs.length : Int) - 1 + 1).toNat = l.vs.length by omega, List.take_length])
  · rintro ⟨i, ac⟩ ⟨j, rfl, hj, hb⟩
    dsimp only at hb ⊢
    rw [show ((j : Int) - 1 + 1).toNat = j by omega]
    cases j with
    | zero =>
      refine .inl ?_
      unfold m32_l1
      rw [decide_eq_false (by dsimp only; omega), cond_false]
      simp
    | succ k =>
      refine .inr ?_
      rw [show ((k + 1 : Nat) : Int) - 1 = (k : Int) by omega]
      obtain ⟨x, hx⟩ : ∃ x, l.vs[k]? = some x := ⟨_, List.getElem?_eq_getElem (by omega)⟩
      have ok := okV_valid hv (List.mem_of_getElem? hx)
      obtain ⟨o1, o2, o3, o4⟩ := ok
      unfold m32_l1
      dsimp only
      rw [decide_eq_true (by omega : (0 : Int) ≤ (k : Int)), cond_true, idx_nat (Int.natCast_nonneg _) (by simpa using hx), Option.bind_some, w64_id (n := (k : Int) - 1) (by omega) (by omega), take_at hx, negV_cons]
      by_cases h0 : x.1 < 0
      · rw [decide_eq_true h0, cond_true, w64_neg ⟨o1, o2⟩, m64_eq (by omega) (by omega) o3 o4, Option.bind_some, guardT (Nat.ble_eq_true_of_le (by simp only [List.length_cons, List.length_nil]; omega)), Option.bind_some, if_pos h0, varX_neg h0]
        exact ⟨_, rfl, ⟨k, rfl, by omega, by simp only [List.length_append, List.length_cons, List.length_nil]; omega⟩, by dsimp only; omega, by
          dsimp only; rw [show ((k : Int) - 1 + 1).toNat = k by omega]; simp⟩
      · rw [decide_eq_false h0, cond_false, Option.bind_some, if_neg h0]
        exact ⟨_, rfl, ⟨k, rfl, by omega, by dsimp only; omega⟩, by dsimp only; omega, by
          dsimp only; rw [show ((k : Int) - 1 + 1).toNat = k by omega]; simp⟩
  · dsimp only; unfold FUEL; omega
theorem ref_l1 (acc : List Bs) (ha : acc.length ≤ 100) : loopN (m33_l1 l) FUEL (acc, (l.vs.length : Int) - 1) = some (acc ++ negV l.vs.reverse) := by
  refine (loop_spec (step := m33_l1 l) (fun s => ∃ j : Nat, s.2 = (j : Int) - 1 ∧ j ≤ l.vs.length ∧ s.1.length + j ≤ 200) (fun s => (s.2 + 1).toNat) (fun s => s.1 ++ negV (l.vs.take (s.2 + 1).toNat).reverse) ?_ FUEL (acc, (l.vs.length : Int) - 1) ⟨l.vs.length, rfl, Nat.le_refl _, by dsimp only; omega⟩ ?_).trans (by
    rw [show ((l.vs.length : Int) - 1 + 1).toNat = l.vs.length by omega, List.take_length])
  · rintro ⟨ac, i⟩ ⟨j, rfl, hj, hb⟩
    dsimp only at hb ⊢
    rw [show ((j : Int) - 1 + 1).toNat = j by omega]
    cases j with
    | zero =>
      refine .inl ?_
      unfold m33_l1
      rw [decide_eq_false (by dsimp only; omega), cond_false]
      simp
    | succ k =>
      refine .inr ?_
      rw [show ((k + 1 : Nat) : Int) - 1 = (k : Int) by omega]
      obtain ⟨x, hx⟩ : ∃ x, l.vs[k]? = some x := ⟨_, List.getElem?_eq_getElem (by omega)⟩
      have ok := okV_valid hv (List.mem_of_getElem? hx)
      obtain ⟨o1, o2, o3, o4⟩ := ok
      unfold m33_l1
      dsimp only
      rw [decide_eq_true (by omega : (0 : Int) ≤ (k : Int)), cond_true, idx_nat (Int.natCast_nonneg _) (by simpa using hx), Option.bind_some, w64_id (n := (k : Int) - 1) (by omega) (by omega), take_at hx, negV_cons]
      by_cases h0 : x.1 < 0
      · rw [decide_eq_true h0, cond_true, Option.bind_some, Option.bind_some, w64_neg ⟨o1, o2⟩, m68_eq (by omega) (by omega) o3 o4, Option.bind_some, guardT (Nat.ble_eq_true_of_le (by simp only [List.length_cons, List.length_nil]; omega)), if_pos h0, varX_neg h0]
        exact ⟨_, rfl, ⟨k, rfl, by omega, by simp only [List.length_append, List.length_cons, List.length_nil]; omega⟩, by dsimp only; omega, by
          dsimp only; rw [show ((k : Int) - 1 + 1).toNat = k by omega]; simp⟩
      · rw [decide_eq_false h0, cond_false, if_neg h0]
        exact ⟨_, rfl, ⟨k, rfl, by omega, by dsimp only; omega⟩, by dsimp only; omega, by
          dsimp only; rw [show ((k : Int) - 1 + 1).toNat = k by omega]; simp⟩
  · dsimp only; unfold FUEL; omega
end
def flatT (r : List Bs) : Bs := (r.map ([44, 32] ++ ·)).flatten
theorem sepT_cons (x : Bs) : ∀ r : List Bs, sepT (x :: r) = x ++ flatT r
  | [] => by simp [sepT, flatT]
  | y :: r => by
    have := sepT_cons y r
    simp only [sepT] at this ⊢
    rw [this]
    simp [flatT]
theorem sepT_join (r : List Bs) : Lib.join r [44, 32] = sepT r := by
  cases r with
  | nil => rfl
  | cons x r => rw [sepT_cons, Lib.join_cons]; rfl
theorem flatT_len : ∀ (r : List Bs), (∀ x ∈ r, x.length ≤ 16) → (flatT r).length ≤ 18 * r.length
  | [], h => Nat.zero_le _
  | x :: r, h => by
    have := flatT_len r fun y hy => h y (List.mem_cons_of_mem _ hy)
    have hx := h x List.mem_cons_self
    unfold flatT at this ⊢
    simp only [List.map_cons, List.flatten_cons, List.length_append, List.length_cons, List.length_nil] at this ⊢
    omega
theorem sepT_le (r : List Bs) (h : ∀ x ∈ r, x.length ≤ 16) : (sepT r).length ≤ 18 * r.length := by
  cases r with
  | nil => exact Nat.zero_le _
  | cons x r =>
    rw [sepT_cons, List.length_append]
    have := flatT_len r fun y hy => h y (List.mem_cons_of_mem _ hy)
    have := h x List.mem_cons_self
    simp only [List.length_cons]; omega
theorem ref_l2 {o : List Bs} (ho : o.length ≤ 100) (hx16 : ∀ x ∈ o, x.length ≤ 16) (s : Bs) (hs : s.length ≤ 4) : loopN (m33_l2 o) FUEL (s, 0) = some (s ++ sepT o) := by
  refine (loop_spec (step := m33_l2 o) (fun t => ∃ j : Nat, t.2 = (j : Int) ∧ j ≤ o.length ∧ t.1.length ≤ 4 + 18 * j) (fun t => o.length - t.2.toNat) (fun t => t.1 ++ (if t.2 = 0 then sepT o else flatT (o.drop t.2.toNat))) ?_ FUEL (s, 0) ⟨0, rfl, Nat.zero_le _, by dsimp only; omega⟩ ?_).trans (by rw [if_pos rfl])
  · rintro ⟨ac, i⟩ ⟨j, rfl, hj, hb⟩
    dsimp only at hb ⊢
    rw [Int.toNat_natCast]
    by_cases hlt : j < o.length
    · refine .inr ?_
      obtain ⟨x, hx⟩ : ∃ x, o[j]? = some x := ⟨_, List.getElem?_eq_getElem hlt⟩
      have hl := hx16 x (List.mem_of_getElem? hx)
      unfold m33_l2
      dsimp only
      rw [decide_eq_true (by omega : (j : Int) < o.length), cond_true, w64_next hlt (by omega)]
      by_cases h0 : j = 0
      · subst h0
        rw [decide_eq_false (by omega), cond_false, Option.bind_some, idx_nat (Int.natCast_nonneg _) (by simpa using hx), Option.bind_some, guardT (Nat.ble_eq_true_of_le (by omega))]
        refine ⟨_, rfl, ⟨1, rfl, hlt, by simp only [List.length_append]; omega⟩, by simp only [Int.toNat_natCast]; omega, ?_⟩
        dsimp only
        rw [if_neg (by omega : ¬ ((0 + 1 : Nat) : Int) = 0), if_pos (by rfl : ((0 : Nat) : Int) = 0), Int.toNat_natCast]
        have : o = x :: o.drop 1 := by have := dropAt hx; simpa using this
        conv => rhs; rw [this, sepT_cons]
        simp
      · rw [decide_eq_true (by omega : (0 : Int) < j), cond_true, guardT (Nat.ble_eq_true_of_le (by simp only [List.length_cons, List.length_nil]; omega)), Option.bind_some, idx_nat (Int.natCast_nonneg _) (by simpa using hx), Option.bind_some,
          guardT (Nat.ble_eq_true_of_le (by simp only [List.length_append, List.length_cons, List.length_nil]; omega))]
        refine ⟨_, rfl, ⟨j + 1, rfl, hlt, by simp only [List.length_append, List.length_cons, List.length_nil]; omega⟩, by simp only [Int.toNat_natCast]; omega, ?_⟩
        dsimp only
        rw [if_neg (by omega), if_neg (by omega), Int.toNat_natCast, dropAt hx]
        simp [flatT]
    · refine .inl ?_
      unfold m33_l2
      dsimp only
      rw [decide_eq_false (by omega), cond_false]
      by_cases h0 : (j : Int) = 0
      · have e : o = [] := List.eq_nil_of_length_eq_zero (by omega)
        rw [if_pos h0, e]; simp [sepT]
      · rw [if_neg h0, List.drop_eq_nil_of_le (by omega)]; simp [flatT]
  · dsimp only; unfold FUEL; simp only [Int.toNat_zero]; omega
def partsOf (l : Lvl) : List Bs := (if 0 < l.c ∨ l.vs = [] then [dec l.c.toNat] else []) ++ posV l.vs ++ negV l.vs.reverse
theorem parts_items (l : Lvl) : (itemsOf l).map It.text = partsOf l := by
  unfold itemsOf partsOf posV negV
  rw [List.map_append, List.map_append, List.map_map, List.map_map]
  congr 2
  split <;> rfl
theorem text_len16 {i : It} (h : i.ok) : i.text.length ≤ 16 := by
  cases i with
  | c n =>
    have hn : n ≤ 100 := h
    have := dec_len 5 n (by omega)
    show (dec n).length ≤ 16; omega
  | v x =>
    obtain ⟨h1, h2, h3, h4⟩ : okV x := h
    have hp : (plusT x.2).length ≤ 9 := by
      unfold plusT
      split
      · have := dec_small (a := x.2) (by omega)
        simp only [List.length_append, List.length_cons, List.length_nil]; omega
      · exact Nat.zero_le _
    show (varX x).length ≤ 16
    unfold varX varT
    split
    · have := dec_small (a := x.1) (by omega)
      simp only [List.length_cons, List.length_append]; omega
    · have := dec_small (a := -1 - x.1) (by omega)
      simp only [List.length_cons, List.length_append]; omega
theorem parts_16 {l : Lvl} (h : validB l = true) : ∀ x ∈ partsOf l, x.length ≤ 16 := by
  intro x hx
  rw [← parts_items] at hx
  obtain ⟨i, hi, rfl⟩ := List.mem_map.1 hx
  exact text_len16 (items_ok h i hi)
theorem parts_len {l : Lvl} (hl : l.vs.length ≤ 12) : (partsOf l).length ≤ 25 := by
  unfold partsOf posV negV
  have h1 := List.length_filter_le (fun x : LV => decide (0 ≤ x.1)) l.vs
  have h2 := List.length_filter_le (fun x : LV => decide (x.1 < 0)) l.vs.reverse
  rw [List.length_reverse] at h2
  simp only [List.length_append, List.length_map]
  split <;> simp only [List.length_cons, List.length_nil] <;> omega
theorem textL_parts (l : Lvl) : textL l = (if (partsOf l).length = 1 then sepT (partsOf l) else [109, 97, 120, 40] ++ sepT (partsOf l) ++ [41]) := by
  unfold textL textOf
  rw [← parts_items, List.length_map]
  split
  · rename_i x h
    rw [if_pos (by rw [h]; rfl), h]; rfl
  · rename_i h
    rw [if_neg]
    intro e
    match hi : itemsOf l with
    | [] => rw [hi] at e; cases e
    | [x] => exact h x hi
    | x :: y :: r => rw [hi] at e; simp at e
theorem textL_len {l : Lvl} (h : validB l = true) (hl : l.vs.length ≤ 12) : (textL l).length ≤ 600 := by
  rw [textL_parts]
  have h1 := sepT_le _ (parts_16 h)
  have h2 := parts_len hl
  split
  · omega
  · simp only [List.length_append, List.length_cons, List.length_nil]; omega
def textR (l : Lvl) : Bs × Int := if validB l = true then (textL l, 0) else ([], 3)
theorem first_parts (l : Lvl) : (cond (decide (0 < l.c)) (some true) (some ((l.vs.length : Int) == 0))) = some (decide (0 < l.c ∨ l.vs = [])) := by
  by_cases h0 : 0 < l.c
  · rw [decide_eq_true h0, cond_true, decide_eq_true (.inl h0)]
  · rw [decide_eq_false h0, cond_false]
    cases hl : l.vs with
    | nil => simp
    | cons x r => simp [h0]; omega
theorem one_get {o : List Bs} (h : o.length = 1) : idx o 0 = some (sepT o) := by
  match o, h with
  | [x], _ => rfl
theorem m32_eq {l : Lvl} (hl : l.vs.length ≤ 12) : m32 l = some (textR l) := by
  unfold m32 textR
  rw [guardT (Nat.ble_eq_true_of_le (by omega))]
  cases hv : validB l with
  | false => rw [if_neg Bool.false_ne_true]; rfl
  | true =>
    rw [if_pos rfl, Bool.not_true, cond_false]
    have hc := valid_c hv
    rw [first_parts, Option.bind_some]
    have e2 : (cond (decide (0 < l.c ∨ l.vs = []))
        (guardO ((cond (decide (-9223372036854775808 ≤ l.c)) (decide (l.c ≤ 9223372036854775807)) false))
          (guardO (Nat.ble ([(Lib.itoa l.c)]).length 1000000000) (some ([(Lib.itoa l.c)]))))
        (some ([] : List ((List UInt8))))) = some (if 0 < l.c ∨ l.vs = [] then [dec l.c.toNat] else []) := by
      by_cases h : 0 < l.c ∨ l.vs = []
      · rw [decide_eq_true h, cond_true, if_pos h, guardT (by rw [decide_eq_true (by omega), decide_eq_true (by omega)]; rfl), guardT (Nat.ble_eq_true_of_le (by simp)), itoa_nn hc.1]
      · rw [decide_eq_false h, cond_false, if_neg h]
    rw [e2, Option.bind_some]
    have l0 : (if 0 < l.c ∨ l.vs = [] then [dec l.c.toNat] else []).length ≤ 1 := by split <;> simp
    have k0 := text_l0 hv hl 0 (if 0 < l.c ∨ l.vs = [] then [dec l.c.toNat] else []) (Nat.zero_le _) (by omega)
    rw [List.drop_zero] at k0
    rw [show ((0 : Int), (if 0 < l.c ∨ l.vs = [] then [dec l.c.toNat] else [])) = (((0 : Nat) : Int), (if 0 < l.c ∨ l.vs = [] then [dec l.c.toNat] else [])) from rfl, k0]
    simp only [Option.bind_some]
    have l1 := List.length_filter_le (fun x : LV => decide (0 ≤ x.1)) l.vs
    rw [w64_id (by omega) (by omega), text_l1 hv hl _ (by rw [List.length_append, List.length_map]; omega)]
    simp only [Option.bind_some]
    have ep : (if 0 < l.c ∨ l.vs = [] then [dec l.c.toNat] else []) ++ posV l.vs ++ negV l.vs.reverse = partsOf l := rfl
    rw [ep]
    have h16 := parts_16 hv
    have hn := parts_len hl
    have hs := sepT_le _ h16
    rw [textL_parts]
    by_cases h1 : (partsOf l).length = 1
    · rw [if_pos h1, show (((partsOf l).length : Int) == 1) = true by rw [h1]; rfl, cond_true, one_get h1, Option.bind_some]
    · rw [if_neg h1, show (((partsOf l).length : Int) == 1) = false by rw [beq_eq_false_iff_ne]; omega, cond_false, sepT_join]
      rw [guardT (by rw [Nat.ble_eq_true_of_le (by omega), Nat.ble_eq_true_of_le (by omega)]; rfl), guardT (Nat.ble_eq_true_of_le (by simp only [List.length_cons, List.length_nil]; omega)), guardT (Nat.ble_eq_true_of_le (by simp only [List.length_append, List.length_cons, List.length_nil]; omega))]
theorem m33_eq {l : Lvl} (hl : l.vs.length ≤ 12) : m33 l = some (textR l) := by
  unfold m33 textR
  rw [guardT (Nat.ble_eq_true_of_le (by omega))]
  cases hv : validB l with
  | false => rw [if_neg Bool.false_ne_true]; rfl
  | true =>
    rw [if_pos rfl, Bool.not_true, cond_false]
    have hc := valid_c hv
    rw [first_parts, Option.bind_some, m67_eq hc.1 (by omega)]
    simp only [Option.bind_some]
    have e2 : (cond (decide (0 < l.c ∨ l.vs = []))
        (guardO (Nat.ble ([(dec l.c.toNat)]).length 1000000000) (some ([(dec l.c.toNat)])))
        (some ([] : List ((List UInt8))))) = some (if 0 < l.c ∨ l.vs = [] then [dec l.c.toNat] else []) := by
      by_cases h : 0 < l.c ∨ l.vs = []
      · rw [decide_eq_true h, cond_true, if_pos h, guardT (Nat.ble_eq_true_of_le (by simp))]
      · rw [decide_eq_false h, cond_false, if_neg h]
    rw [e2, Option.bind_some]
    have l0 : (if 0 < l.c ∨ l.vs = [] then [dec l.c.toNat] else []).length ≤ 1 := by split <;> simp
    have k0 := ref_l0 hv hl 0 (if 0 < l.c ∨ l.vs = [] then [dec l.c.toNat] else []) (Nat.zero_le _) (by omega)
    rw [List.drop_zero] at k0
    rw [show ((if 0 < l.c ∨ l.vs = [] then [dec l.c.toNat] else []), (0 : Int)) = ((if 0 < l.c ∨ l.vs = [] then [dec l.c.toNat] else []), ((0 : Nat) : Int)) from rfl, k0]
    simp only [Option.bind_some]
    have l1 := List.length_filter_le (fun x : LV => decide (0 ≤ x.1)) l.vs
    rw [w64_id (by omega) (by omega), ref_l1 hv hl _ (by rw [List.length_append, List.length_map]; omega)]
    simp only [Option.bind_some]
    have ep : (if 0 < l.c ∨ l.vs = [] then [dec l.c.toNat] else []) ++ posV l.vs ++ negV l.vs.reverse = partsOf l := rfl
    rw [ep]
    have h16 := parts_16 hv
    have hn := parts_len hl
    have hs := sepT_le _ h16
    rw [textL_parts]
    by_cases h1 : (partsOf l).length = 1
    · rw [if_pos h1, show (((partsOf l).length : Int) == 1) = true by rw [h1]; rfl, cond_true, one_get h1, Option.bind_some]
    · rw [if_neg h1, show (((partsOf l).length : Int) == 1) = false by rw [beq_eq_false_iff_ne]; omega, cond_false, ref_l2 (by omega) h16 _ (by simp), Option.bind_some]
      rw [guardT (Nat.ble_eq_true_of_le (by simp only [List.length_append, List.length_cons, List.length_nil]; omega))]
theorem m8_true (a0 : Lvl) : m8 a0 = some true := by
  unfold m8
  rw [m13_eq (by simp), Option.bind_some]
  cases hf : few12 [a0] with
  | false => rfl
  | true =>
    have hl := few_len hf (x := a0) List.mem_cons_self
    rw [Bool.not_true, cond_false, m32_eq hl, m33_eq hl]
    simp only [Option.bind_some]
    unfold textR
    cases hv : validB a0 with
    | false => rw [if_neg Bool.false_ne_true]; simp
    | true =>
      rw [if_pos rfl]
      simp only [beq_self_eq_true, Bool.not_true, cond_false, bne_self_eq_false, Option.bind_some]
      rw [m26_eq (textL_len hv hl), res_text hv]
      simp only [Option.bind_some, beq_self_eq_true, cond_true]
      rw [m31_eq (by omega), m21_eq (by omega), sameB_refl]
      rfl
end Go.Proofs.YtcapifnaceegmaaGreatDoor
namespace Go.Proofs.YtcapifnaceegmaaGreatDoor
open Go.RowKit Go.ChangeShapes Go.WideShapes
set_option linter.unusedSimpArgs false
set_option linter.unusedVariables false
set_option linter.unusedSectionVars false
def allS (w : World) : Nat → Nat → Prop := fun b _ => b < w.heap.size
def RC (w : World) (e : List C) (cs : List Value) : Prop := cs.length = e.length ∧ ∀ (j : Nat) (c : C), e[j]? = some c → ∃ u, cs[j]? = some u ∧ Reads (allS w) w c u
theorem RC.app {w : World} {e0 e1 : List C} {cs : List Value} (h0 : RC w e0 (cs.take e0.length)) (h1 : RC w e1 (cs.drop e0.length)) (hl : cs.length = e0.length + e1.length) : RC w (e0 ++ e1) cs := by
  refine ⟨by rw [hl, List.length_append], fun j c hj => ?_⟩
  rcases Nat.lt_or_ge j e0.length with h | h
  · rw [List.getElem?_append_left h] at hj
    obtain ⟨u, h2, h3⟩ := h0.2 j c hj
    rw [List.getElem?_take, if_pos h] at h2
    exact ⟨u, h2, h3⟩
  · rw [List.getElem?_append_right h] at hj
    obtain ⟨u, h2, h3⟩ := h1.2 _ c hj
    rw [List.getElem?_drop, show e0.length + (j - e0.length) = j by omega] at h2
    exact ⟨u, h2, h3⟩
section
variable {H : Type} (enc : TypeId × Value → H) (P : Program) (w : World)
def Opens (t : TypeId) (α : Type) [Enc α] : Prop := ∀ (fuel : Nat) (cs : List Value) (x : DataW H × List MemPlace), DataW.trod enc P w 0 (fun _ => true) true fuel t cs = some x → ∃ v : α, RC w (Enc.enc v) cs
end
section
variable {H : Type} {enc : TypeId × Value → H} {P : Program} {w : World}
theorem opens_int {t : TypeId} (ht : P.underlying t = some (.int .i64)) : Opens enc P w t Int := by
  intro fuel cs x h
  obtain ⟨n, rfl, -, -⟩ := DataW.trod_int ht h
  refine ⟨n, rfl, fun j c hj => ?_⟩
  cases j with
  | zero => cases hj; exact ⟨_, rfl, Reads.v _ rfl⟩
  | succ j => cases hj
theorem opens_slice {α : Type} [Enc α] [EncLen α] {t e : TypeId} (ht : P.underlying t = some (.slice e)) (hc : P.cellsOf e = Enc.sz α) (ho : Opens enc P w e α) : Opens enc P w t (List α) := by
  intro fuel cs x h
  rcases Deep.open_slice ht h with ⟨rfl, -⟩ | ⟨a, len, cap, m, n, D, Pl, rfl, -, hlc, -, hm, -, hel⟩
  · refine ⟨[], rfl, fun j c hj => ?_⟩
    cases j with
    | zero =>
      cases hj
      refine ⟨_, rfl, ?_⟩
      rw [Enc.nil]
      exact .sl _ [] none 0 0 0 (fun _ _ => undef) (Nat.le_refl _) (fun h => absurd rfl h) (fun i e h => by simp at h) (fun i e j c h => by simp at h) (fun i e j c h => by simp at h) (fun i e j c h => by simp at h)
    | succ j => cases hj
  · have hm' : m = cap := by rw [hm]; rfl
    have hall : ∀ k, k ≤ len → ∃ l : List α, l.length = k ∧ ∀ (i : Nat) (v : α), l[i]? = some v → ∃ cs', w.cells? 0 (a.add (i * Enc.sz α)) (Enc.sz α) = some cs' ∧ RC w (Enc.enc v) cs' := by
      intro k
      induction k with
      | zero => intro _; exact ⟨[], rfl, fun i v h => by simp at h⟩
      | succ k ih =>
        intro hk
        obtain ⟨l, h1, h2⟩ := ih (by omega)
        obtain ⟨cs', h3, h4⟩ := hel k (by omega)
        rw [hc] at h3
        obtain ⟨v, hv⟩ := ho _ _ _ h4
        refine ⟨l ++ [v], by simp [h1], fun i v' hi => ?_⟩
        rcases Nat.lt_or_ge i l.length with h | h
        · rw [List.getElem?_append_left h] at hi; exact h2 i v' hi
        · rw [List.getElem?_append_right h] at hi
          have hi0 : i - l.length = 0 := by
            rcases Nat.eq_zero_or_pos (i - l.length) with h0 | h0
            · exact h0
            · rw [List.getElem?_eq_none (by simp only [List.length_singleton]; omega)] at hi; cases hi
          have hik : i = k := by omega
          rw [hi0] at hi; cases hi
          rw [hik]; exact ⟨cs', h3, hv⟩
    obtain ⟨l, hl, hcells⟩ := hall len (Nat.le_refl _)
    have hpos : 0 < Enc.sz α := EncLen.pos
    have hspot : l ≠ [] → a.spot = none ∧ a.block < w.heap.size := by
      intro hne
      obtain ⟨v, r, rfl⟩ := List.exists_cons_of_ne_nil hne
      obtain ⟨cs', h1, h2⟩ := hcells 0 v rfl
      obtain ⟨-, h3, h4⟩ := World.cells?_some h1
      have h5 := h4 0 hpos
      rw [Nat.zero_mul, Deep.add_add, Nat.zero_add] at h5
      have h6 : (cs'[0]?).isSome := by rw [List.getElem?_eq_getElem (by omega)]; rfl
      rw [← h5] at h6
      have h7 : (a.add 0) = a := by simp [Addr.add]
      rw [h7] at h6
      unfold World.cell? at h6
      split at h6
      · rename_i c _ _ hb
        refine ⟨?_, (Array.getElem?_eq_some_iff.1 hb).1⟩
        split at h6
        · cases h6
        · rename_i hs
          cases hsp : a.spot with
          | none => rfl
          | some q => rw [hsp] at hs; exact absurd rfl hs
      · cases h6
    have hadd : l ≠ [] → ∀ k, a.add k = ⟨a.block, a.off + k, none⟩ := by
      intro hne k
      have h1 := (hspot hne).1
      unfold Addr.add
      split
      · rename_i h0; subst h0
        obtain ⟨b, o, sp⟩ := a
        simp only at h1; subst h1; rfl
      · rfl
    have hcell : ∀ (i : Nat) (e' : List C) (j : Nat) (c : C), (Enc.encL l)[i]? = some e' → e'[j]? = some c → ∃ u, w.cell? ⟨a.block, a.off + i * Enc.sz α + j, none⟩ = some u ∧ Reads (allS w) w c u := by
      intro i e' j c hi hj
      rw [Enc.map, List.getElem?_map] at hi
      cases hx : l[i]? with
      | none => rw [hx] at hi; cases hi
      | some v =>
        rw [hx] at hi; cases hi
        have hne : l ≠ [] := by intro h0; rw [h0] at hx; simp at hx
        obtain ⟨cs', h1, h2⟩ := hcells i v hx
        obtain ⟨u, h3, h4⟩ := h2.2 j c hj
        obtain ⟨-, h5, h6⟩ := World.cells?_some h1
        have hjl : j < Enc.sz α := by have := (List.getElem?_eq_some_iff.1 h3).1; omega
        have h7 := h6 j hjl
        rw [Deep.add_add, hadd hne, h3, ← Nat.add_assoc] at h7
        exact ⟨u, h7, h4⟩
    refine ⟨l, rfl, fun j c hj => ?_⟩
    cases j with
    | succ j => cases hj
    | zero =>
      cases hj
      refine ⟨_, rfl, ?_⟩
      have hR := Reads.sl (S := allS w) (w := w) (Enc.sz α) (Enc.encL l) (some a) cap a.block a.off (fun i j => (w.cell? ⟨a.block, a.off + i * Enc.sz α + j, none⟩).getD undef) (by rw [Enc.len, hl]; exact hlc)
        (fun hne => by
          have hne' : l ≠ [] := by intro h0; rw [h0, Enc.nil] at hne; exact hne rfl
          have h7 : (a.add 0) = a := by simp [Addr.add]
          rw [← h7, hadd hne'])
        (fun i e' hi => encL_lens l e' (List.mem_of_getElem? hi))
        (fun i e' j c hi hj => by obtain ⟨u, h1, -⟩ := hcell i e' j c hi hj; rw [h1]; rfl)
        (fun i e' j c hi hj => by
          have hne : l ≠ [] := by intro h0; rw [h0, Enc.nil] at hi; simp at hi
          exact (hspot hne).2)
        (fun i e' j c hi hj => by obtain ⟨u, h1, h2⟩ := hcell i e' j c hi hj; rw [h1]; exact h2)
      rw [Enc.len, hl] at hR
      exact hR
theorem opens_pair {α β γ : Type} [Enc α] [Enc β] [Enc γ] {t : TypeId} {f0 f1 : Field} (mk : α → β → γ) (ht : P.underlying t = some (.struct #[f0, f1])) (h0 : Opens enc P w f0.type α) (h1 : Opens enc P w f1.type β)
    (n0 n1 : Nat) (c0 : P.cellsOf f0.type = n0) (c1 : P.cellsOf f1.type = n1) (ct : P.cellsOf t = n0 + n1) (hl0' : ∀ x : α, (Enc.enc x).length = n0) (o0 : f0.offset = 0) (o1' : f1.offset = n0) (hmk : ∀ x y, Enc.enc (mk x y) = Enc.enc x ++ Enc.enc y) : Opens enc P w t γ := by
  have hl0 : ∀ x : α, (Enc.enc x).length = P.cellsOf f0.type := fun x => (hl0' x).trans c0.symm
  have o1 : f1.offset = P.cellsOf f0.type := o1'.trans c0.symm
  have hs : P.cellsOf t = P.cellsOf f0.type + P.cellsOf f1.type := by rw [ct, c0, c1]
  intro fuel cs x h
  obtain ⟨y0, y1, n, -, hlen, h2, h3⟩ := trod_struct2 ht h
  obtain ⟨v0, r0⟩ := h0 _ _ _ h2
  obtain ⟨v1, r1⟩ := h1 _ _ _ h3
  rw [o0, List.drop_zero] at r0
  rw [o1] at r1
  have e1 : (cs.drop (P.cellsOf f0.type)).take (P.cellsOf f1.type) = cs.drop (P.cellsOf f0.type) := List.take_of_length_le (by rw [List.length_drop, hlen, hs]; omega)
  rw [e1] at r1
  refine ⟨mk v0 v1, ?_⟩
  rw [hmk]
  refine RC.app (by rw [hl0]; exact r0) (by rw [hl0]; exact r1) ?_
  have := r1.1
  rw [List.length_drop, hlen, hs] at this
  rw [hl0, ← this, hlen, hs]; omega
end
end Go.Proofs.YtcapifnaceegmaaGreatDoor
namespace Go.Proofs.YtcapifnaceegmaaGreatDoor
open Go.ChangeShapes Go.WideShapes Go.ChangeAt Go.RowKit Go.WideElems
set_option linter.unusedSimpArgs false
set_option linter.unusedVariables false
set_option linter.unusedSectionVars false
theorem own : ownKnob Tryz.prog.godebug = none := by kernel_rfl
theorem laidOut : laidOutB Tryz.prog = true := by kernel_rfl
theorem cells3 : Tryz.prog.cellsOf 3 = 1 := by kernel_rfl
theorem cells22 : Tryz.prog.cellsOf 22 = 1 := by kernel_rfl
theorem cells24 : Tryz.prog.cellsOf 24 = 2 := by kernel_rfl
theorem cells69 : Tryz.prog.cellsOf 69 = 2 := by kernel_rfl
theorem opens_lv {H : Type} {enc : TypeId × Value → H} {w : World} : Opens enc Tryz.prog w 69 LV :=
  opens_pair (α := Int) (β := Int) (fun a b => (a, b)) Tryz.underlying69 (opens_int Tryz.underlying3) (opens_int Tryz.underlying3) 1 1 cells3 cells3 cells69 (fun _ => rfl) rfl rfl (fun _ _ => rfl)
theorem opens_lvl {H : Type} {enc : TypeId × Value → H} {w : World} : Opens enc Tryz.prog w 24 Lvl :=
  opens_pair (α := Int) (β := List LV) (fun a b => ⟨a, b⟩) Tryz.underlying24 (opens_int Tryz.underlying3) (opens_slice (α := LV) Tryz.underlying22 cells69 opens_lv) 1 1 cells3 cells22 cells24 (fun _ => rfl) rfl rfl (fun _ _ => rfl)
set_option maxRecDepth 100000 in
theorem lvl_reads {H : Type} {enc : TypeId × Value → H} {W : World} {base : Nat} {v : Value} {d : DataW H} {p : List MemPlace}
    (hval : Value.okWide Tryz.prog W .any base 24 v) (h : DataW.Trod enc Tryz.prog W 0 (fun _ => true) true 24 v d p) : ∃ L : Lvl, (AV.agg (cE L)).rel (Vu.of (allS W)) W v := by
  obtain ⟨fuel, hf⟩ := h
  obtain ⟨L, hl⟩ := opens_lvl _ _ _ hf
  obtain ⟨cs, rfl, -⟩ := okWide_struct Tryz.underlying24 hval
  have hc : (Value.agg cs).cells = cs := rfl
  rw [hc] at hl
  refine ⟨L, cs, rfl, ?_, fun i x hx => ?_⟩
  · have := hl.1
    rw [Array.length_toList] at this
    rw [this, List.length_map]
  · rw [List.getElem?_map] at hx
    cases hy : (Enc.enc L)[i]? with
    | none => rw [hy] at hx; cases hx
    | some c =>
      rw [hy] at hx
      cases hx
      obtain ⟨u, hu, hr⟩ := hl.2 i c hy
      exact ⟨u, by simpa using hu, hr⟩
end Go.Proofs.YtcapifnaceegmaaGreatDoor
namespace Go.Proofs.YtcapifnaceegmaaGreatDoor
open Go.ChangeShapes Go.WideShapes Go.ChangeAt Go.RowKit Go.WideElems
set_option linter.unusedSimpArgs false
set_option linter.unusedVariables false
set_option linter.unusedSectionVars false
theorem tabs_of_laid {W : World} (h : laidMetH Tryz.prog Rows.levelTextsRow.laid W) : Tabs Tryz.prog (allS W) W := by
  rw [MakeChecks.laidMetH_plain _ _ _ (by kernel_rfl)] at h
  obtain ⟨ps, hv, -, -⟩ := h
  obtain ⟨_, _, _, _, _, q1, _, _, _, _, hv1, _⟩ := hv
  obtain ⟨_, _, _, _, _, q2, _, _, _, _, hv2, _⟩ := hv1
  obtain ⟨g', t', cs, fuel, p, q, hg', ht', hvar, hd, _, _⟩ := hv2
  have hg : Tryz.prog.globalNamed "internal/strconv.uint64pow10" = some 0 := Tryz.laysM171.m17
  obtain rfl := Option.some.inj (hg.symm.trans hg')
  obtain rfl := Option.some.inj ((show (Tryz.prog.globals[0]?).map (·.type) = some 177 by kernel_rfl).symm.trans ht')
  have e : cs.toList = Lib.pow10Tab.map fun z => Value.int .u64 z :=
    Lib.cells_of_tab (t := 177) (e := 150) (n := 20) (by kernel_rfl) (by kernel_rfl) (by kernel_rfl) (by kernel_rfl) hd
  have hT : Lib.TabIs Tryz.prog W "internal/strconv.uint64pow10" .u64 Lib.pow10Tab := by
    unfold Lib.TabIs
    rw [hvar, ← e]
  refine Tabs.of hg (fun o => ?_) hT
  show 0 < W.heap.size
  unfold World.var? at hvar
  rw [hg] at hvar
  simp only [Option.bind_some] at hvar
  split at hvar
  · rename_i hh; exact (Array.getElem?_eq_some_iff.1 hh).1
  · cases hvar
theorem law8 {W : World} (hT : Tabs Tryz.prog (allS W) W) (a0 : Lvl) {v0 : Value} (hv0 : (AV.agg (cE a0)).rel (Vu.of (allS W)) W v0) : Calls Tryz.prog 8 #[v0] W fun e W' => e = .returned (.bool true) ∧ Below W.heap.size W W' := by
  have hF := m8_ok a0 true (m8_true a0)
  refine Calls.mono (hF.2 (allS W) W #[v0] (fun b o h => h) hT ⟨rfl, fun i y hy => ?_⟩) ?_
  · match i, hy with
    | 0, hy => cases hy; exact ⟨_, rfl, hv0⟩
  · rintro e W' ⟨u, S', rfl, hx, -, -, hu⟩
    have e1 : u = .bool true := by cases hu; rfl
    rw [e1]
    exact ⟨rfl, hx.os, hx.tape, hx.output, hx.size, fun k hk => hx.block k hk (fun h => h)⟩
set_option maxRecDepth 100000 in
set_option maxHeartbeats 1000000 in
theorem lifted (os : Os) (started : os.Started) (H : Type) (enc : TypeId × Value → H) :
    ReturnsInHanded {} Tryz.checked os 8 .any (fun w args => (Rows.levelTextsSpec.pre enc Tryz.prog Tryz.f8 [] false w args ∧ laidMetH Tryz.prog Rows.levelTextsRow.laid w) ∧ sizedMet enc Tryz.prog Tryz.f8 (OpenSpec.ofChange Rows.levelTextsSpec) false w args)
      (Rows.levelTextsSpec.post enc Tryz.prog Tryz.f8 false true false false) := by
  refine returnsInHanded_of_change_and (C := Tryz.checked) (X := fun w _ => laidMetH Tryz.prog Rows.levelTextsRow.laid w) (fun _ _ _ hh h => h.of_heap hh) own started (by kernel_rfl) Tryz.func8
    (ChangeSpec.witness_shaped (enc := enc) (C := Tryz.checked) (os := os) (X := fun w _ => laidMetH Tryz.prog Rows.levelTextsRow.laid w) false (World.laidAll Tryz.prog os Rows.levelTextsRow.laid) #[.agg #[.int .i64 0, .slice none 0 0]] 8 (World.laidAll_os _ _ _)
      (World.shaped_of_ZipB (by kernel_rfl) (by kernel_rfl)) (by kernel_rfl) (by kernel_rfl) (by kernel_rfl)
      (by rw [MakeChecks.laidMetH_plain _ _ _ (by kernel_rfl)]; exact laidMet_laidAll _ (by kernel_rfl) (by kernel_rfl))) ?_
  intro W base args ds gs before hval0 hW _ _ hL _
  have hval : ∀ (j : Nat) t v, Tryz.f8.params[j]? = some t → args[j]? = some v → Value.okWide Tryz.prog W .any base t v := hval0
  have hW' := hW
  obtain ⟨p, q, hA0, hV, rfl, hfz, hnd⟩ := hW
  have hA : DataW.TrodAll enc Tryz.prog W 0 (fun _ => true) true Tryz.f8.params.toList args.toList ds p := hA0
  rw [Tryz.params8] at hA hval
  obtain ⟨v0, d0, rfl, rfl, h0⟩ := trodAll_one hA
  obtain ⟨rfl, rfl⟩ := trodVars_none hV
  have h0k := h0
  obtain ⟨a0, hv0⟩ := lvl_reads (hval 0 24 v0 rfl rfl) h0
  clear hA0 hval0
  simp only [List.append_nil] at hW'
  have hlt : ∀ x ∈ p, x.block < W.heap.size := fun x hx => by simpa using hW'.lt x hx
  refine (law8 (tabs_of_laid hL) a0 hv0).mono fun e W' ⟨he, hb⟩ => ?_
  subst he
  have hargs : ∀ sp : Nat → Bool, (∀ x ∈ p, sp x.block = true) → DataW.TrodAll enc Tryz.prog W' 0 sp true [24] [v0] [d0] (p) := fun sp hsp =>
    trodAll_mk1 (WideElems.Trod_stays laidOut (by kernel_rfl) (of_decide_eq_true (by kernel_rfl)) h0k (fun x hx => hb.same (hlt x (by simp [hx]))) (fun x hx => hsp x (by simp [hx])))
  exact ⟨_, rfl, _, _, _, [], p, [], hW', trodAll_mk1 (shut_bool Tryz.underlying4 true), hargs _ (fun x hx => by simpa using hlt x hx), rfl, hb.frame _, fun h => by cases h⟩
theorem over : Rows.levelTextsRow.holds Tryz.pinned (OpenSpec.ofChange Rows.levelTextsSpec) :=
  OpenClaim.holds_of_wide 8 Tryz.f8 rfl rfl rfl rfl rfl rfl rfl ⟨rfl, rfl, rfl, rfl, rfl⟩ rfl rfl rfl rfl rfl (by kernel_rfl) Tryz.func8 (by kernel_rfl)
    (of_decide_eq_true (by kernel_rfl)) (by unfold Func.isWrapper; first | (rw [if_pos (by decide +kernel)]; kernel_rfl) | (rw [if_neg (by decide +kernel)]; exact ⟨rfl, rfl⟩))
    (fun os started H enc _ => lifted os started H enc)
theorem levelTextsCard : Rows.LevelTextsCardSaid :=
  Claim7.holds_tied_plain_at .later [] [.data, .data, .data, .data, .sentinel, .sentinel, .pinned] true (true, "5e7632e2b5e91e2e64ce9ca6ac393cc93f51a5042e08c0e4f1680a28b429fecc") true
    over (fun _ h => by cases h) (by kernel_rfl) (fun _ h => by cases h) levelTexts_row_tie rfl ⟨rfl, rfl⟩ (by kernel_rfl) rfl
    (fun f fn hf hfn => by
      obtain rfl : f = 8 := Option.some.inj ((show Tryz.prog.funcNamed "euclid/euclidlaw01.LevelTexts" = some 8 by kernel_rfl).symm.trans hf) |>.symm
      obtain rfl : fn = Tryz.f8 := (Option.some.inj (Tryz.func8.symm.trans hfn)).symm
      exact ⟨by kernel_rfl, fun j t ht => by
        rw [Tryz.params8] at ht
        have hm : t ∈ [24] := by simpa using Array.mem_of_getElem? ht
        have hall : ([24].all fun u => !Tryz.prog.wantsStandIn u) = true := by kernel_rfl
        exact (show Tryz.prog.wantsStandIn t = false by simpa using List.all_eq_true.1 hall t hm)⟩)
    (by kernel_rfl)
#print axioms levelTextsCard
end Go.Proofs.YtcapifnaceegmaaGreatDoor
