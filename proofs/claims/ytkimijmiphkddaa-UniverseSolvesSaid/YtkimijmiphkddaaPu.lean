/- Plain laws: Solve and its reference pass over the bounds alike, and come to an end. -/
import Derived.Test.YtkimijmiphkddaaPr
namespace Go.Proofs.Ytkimijmiphkddaa
open Go.RowKit
set_option linter.unusedSimpArgs false
set_option linter.unusedVariables false

def BndsIn (n : Nat) (bs : List Bnd) : Prop := ∀ b ∈ bs, LvlIn n b.lo ∧ LvlIn n b.hi
def passG (s : Nat × Bool × List Lvl) (b : Bnd) : Nat ⊕ (Nat × Bool × List Lvl) := Sum.elim (fun _ => .inl s.1) (fun r => .inr (s.1 + 1, s.2.1 || r.2, r.1)) (visL b s.2.2)
def passL (bs : List Bnd) (ws : List Lvl) : Nat ⊕ (Nat × Bool × List Lvl) := runG passG bs (0, false, ws)

def GrowP (s s' : Nat × Bool × List Lvl) : Prop := s'.2 = s.2 ∨ (s'.2.1 = true ∧ mu s.2.2 < mu s'.2.2)
theorem passG_grow {n : Nat} {b : Bnd} (hb : LvlIn n b.lo ∧ LvlIn n b.hi) {s s' : Nat × Bool × List Lvl} (hs : Vals n s.2.2) (e : passG s b = .inr s') : (Vals n s'.2.2 ∧ s'.1 = s.1 + 1) ∧ GrowP s s' := by
  unfold passG at e
  cases hv : visL b s.2.2 with
  | inl r => rw [hv] at e; cases e
  | inr r =>
    rw [hv] at e
    cases e
    obtain ⟨h1, h2⟩ := visL_grow hb.1 hb.2 hs hv
    refine ⟨⟨h1, rfl⟩, ?_⟩
    rcases h2 with rfl | ⟨h3, h4⟩
    · left; show (s.2.1 || false, s.2.2) = s.2; rw [Bool.or_false]
    · right; refine ⟨?_, h4⟩; show (s.2.1 || r.2) = true; rw [h3, Bool.or_true]
theorem passL_grow {n : Nat} {bs : List Bnd} (hb : BndsIn n bs) {ws : List Lvl} (hw : Vals n ws) {s : Nat × Bool × List Lvl} (e : passL bs ws = .inr s) : Vals n s.2.2 ∧ (s.2 = (false, ws) ∨ (s.2.1 = true ∧ mu ws < mu s.2.2)) :=
  run_inv (g := passG) (Q := fun s => Vals n s.2.2) (R := GrowP) (fun s _ => .inl rfl) (fun a b c h k => by
    rcases k with k | ⟨k1, k2⟩
    · rcases h with h | ⟨h1, h2⟩
      · exact .inl (k.trans h)
      · exact .inr ⟨by rw [k]; exact h1, by rw [k]; exact h2⟩
    · rcases h with h | ⟨h1, h2⟩
      · exact .inr ⟨k1, by rw [h] at k2; exact k2⟩
      · exact .inr ⟨k1, by omega⟩) bs (fun s b s' hm hq hg => ⟨(passG_grow (hb b hm) hq hg).1.1, (passG_grow (hb b hm) hq hg).2⟩) (0, false, ws) s hw e

theorem m15_l0_eq {n : Nat} {bs : List Bnd} (hb : BndsIn n bs) (hl : bs.length ≤ 900000) {a0 : Int} (ha : a0.toNat = n) {ws : List Lvl} (hw : Vals n ws) :
    loopN (m15_l0 bs a0) FUEL (false, 0, ws) = some (Sum.elim (fun i => .inr ([], (i : Int), 15)) (fun s => .inl (s.2.1, s.2.2)) (passL bs ws)) := by
  have key := run_loop (step := m15_l0 bs a0) (l := bs) (fun i (s : Nat × Bool × List Lvl) => (s.2.1, i, s.2.2)) (fun s => .inl (s.2.1, s.2.2)) (fun (i : Nat) => .inr ([], (i : Int), 15)) passG (fun k s => s.1 = k ∧ Vals n s.2.2) hl (fun k b s hx hs => by
    have hk := (List.getElem?_eq_some_iff.1 hx).1
    have hB := hb b (List.mem_of_getElem? hx)
    have key : m15_l0 bs a0 (s.2.1, (k : Int), s.2.2) = some (Sum.elim (fun i => .done (.inr ([], (i : Int), 15))) (fun s => .next (s.2.1, w64 ((k : Int) + 1), s.2.2)) (passG s b)) := by
      unfold m15_l0 passG
      dsimp only
      rw [decide_eq_true (by omega : (k : Int) < bs.length), cond_true, idx_nat (Int.natCast_nonneg _) (by simpa using hx), Option.bind_some, ha, m31o_eq hB.1 hB.2 hs.2, Option.bind_some]
      cases visL b s.2.2 with
      | inl r => rw [hs.1]; rfl
      | inr r => cases s.2.1 <;> rfl
    cases hg : passG s b with
    | inl r => rw [hg] at key; exact key
    | inr s' =>
      rw [hg] at key
      obtain ⟨⟨h1, h2⟩, -⟩ := passG_grow hB hs.2 hg
      exact ⟨key, by rw [h2, hs.1], h1⟩) (fun s _ => by unfold m15_l0; dsimp only; rw [decide_eq_false (by omega), cond_false]) (0, false, ws) ⟨rfl, hw⟩
  exact key
theorem m16_l0_eq {n : Nat} {bs : List Bnd} (hb : BndsIn n bs) (hl : bs.length ≤ 900000) {a0 : Int} (ha : a0.toNat = n) {ws : List Lvl} (hw : Vals n ws) :
    loopN (m16_l0 bs a0) FUEL (false, 0, ws) = some (Sum.elim (fun i => .inr ([], (i : Int), 15)) (fun s => .inl (s.2.1, s.2.2)) (passL bs ws)) := by
  have key := run_loop (step := m16_l0 bs a0) (l := bs) (fun i (s : Nat × Bool × List Lvl) => (s.2.1, i, s.2.2)) (fun s => .inl (s.2.1, s.2.2)) (fun (i : Nat) => .inr ([], (i : Int), 15)) passG (fun k s => s.1 = k ∧ Vals n s.2.2) hl (fun k b s hx hs => by
    have hk := (List.getElem?_eq_some_iff.1 hx).1
    have hB := hb b (List.mem_of_getElem? hx)
    have key : m16_l0 bs a0 (s.2.1, (k : Int), s.2.2) = some (Sum.elim (fun i => .done (.inr ([], (i : Int), 15))) (fun s => .next (s.2.1, w64 ((k : Int) + 1), s.2.2)) (passG s b)) := by
      unfold m16_l0 passG
      dsimp only
      rw [decide_eq_true (by omega : (k : Int) < bs.length), cond_true, idx_nat (Int.natCast_nonneg _) (by simpa using hx), Option.bind_some, ha, m32o_eq hB.1 hB.2 hs.2, Option.bind_some]
      cases visL b s.2.2 with
      | inl r => rw [hs.1]; rfl
      | inr r => cases s.2.1 <;> rfl
    cases hg : passG s b with
    | inl r => rw [hg] at key; exact key
    | inr s' =>
      rw [hg] at key
      obtain ⟨⟨h1, h2⟩, -⟩ := passG_grow hB hs.2 hg
      exact ⟨key, by rw [h2, hs.1], h1⟩) (fun s _ => by unfold m16_l0; dsimp only; rw [decide_eq_false (by omega), cond_false]) (0, false, ws) ⟨rfl, hw⟩
  exact key

/-- passes until nothing changes; left: the index of the bound that fails -/
def solveN (bs : List Bnd) : Nat → List Lvl → Nat ⊕ List Lvl
  | 0, ws => .inr ws
  | k + 1, ws => match passL bs ws with
    | .inl i => .inl i
    | .inr s => cond s.2.1 (solveN bs k s.2.2) (.inr s.2.2)
def outS : Nat ⊕ List Lvl → List Lvl ⊕ (List Lvl × Int × Int) := Sum.elim (fun i => .inr ([], (i : Int), 15)) .inl

theorem both_loops {n : Nat} {bs : List Bnd} (hb : BndsIn n bs) (hl : bs.length ≤ 900000) {a0 : Int} (ha : a0.toNat = n) : ∀ (k : Nat) (ws : List Lvl), Vals n ws → n * 908 < mu ws + k → ∀ N, k ≤ N →
    loopN (m15_l1 bs a0) N ws = some (outS (solveN bs k ws)) ∧ loopN (m16_l1 bs a0) (N + 1) (true, ws) = some (outS (solveN bs k ws)) ∧ ∀ r, solveN bs k ws = .inr r → Vals n r ∧ passL bs r = .inr (bs.length, false, r)
  | 0, ws, hw, h, N, hN => by have := mu_le hw; omega
  | k + 1, ws, hw, h, 0, hN => by omega
  | k + 1, ws, hw, h, N + 1, hN => by
    have e15 := m15_l0_eq hb hl ha hw
    have e16 := m16_l0_eq hb hl ha hw
    cases hp : passL bs ws with
    | inl i =>
      rw [hp] at e15 e16
      have es : solveN bs (k + 1) ws = .inl i := by unfold solveN; rw [hp]
      rw [es]
      refine ⟨?_, ?_, fun r hr => by cases hr⟩
      · have : m15_l1 bs a0 ws = some (.done (.inr ([], (i : Int), 15))) := by unfold m15_l1; rw [e15]; rfl
        simp only [loopN, this]; rfl
      · have : m16_l1 bs a0 (true, ws) = some (.done (.inr ([], (i : Int), 15))) := by
          unfold m16_l1; dsimp only; rw [cond_true, e16]; rfl
        simp only [loopN, this]; rfl
    | inr s =>
      rw [hp] at e15 e16
      obtain ⟨hv, hg⟩ := passL_grow hb hw hp
      have s15 : m15_l1 bs a0 ws = some (cond (!s.2.1) (.done (.inl s.2.2)) (.next s.2.2)) := by
        unfold m15_l1; rw [e15]
        simp only [Option.bind_some, Sum.elim_inr, Sum.elim_inl]
        cases s.2.1 <;> rfl
      have s16 : m16_l1 bs a0 (true, ws) = some (.next (s.2.1, s.2.2)) := by unfold m16_l1; dsimp only; rw [cond_true, e16]; rfl
      have es : solveN bs (k + 1) ws = cond s.2.1 (solveN bs k s.2.2) (.inr s.2.2) := by rw [solveN, hp]
      rw [es]
      cases ha1 : s.2.1 with
      | false =>
        rw [ha1] at s15 s16
        have ew : s.2 = (false, ws) := hg.resolve_right fun h => by rw [ha1] at h; cases h.1
        refine ⟨?_, ?_, fun r hr => ?_⟩
        · simp only [loopN, s15]; rfl
        · have : m16_l1 bs a0 (false, s.2.2) = some (.done (.inl s.2.2)) := rfl
          simp only [loopN, s16, this]; rfl
        · cases hr
          refine ⟨hv, ?_⟩
          have e2 : s.2.2 = ws := by rw [ew]
          rw [e2, hp]
          have e1 : s.1 = bs.length := by
            have hh := run_inv (g := passG) (l := bs) (Q := fun s => Vals n s.2.2) (R := fun _ _ => True) (fun s _ => trivial) (fun a b c _ _ => trivial) (fun s b s' hm hq hg => ⟨(passG_grow (hb b hm) hq hg).1.1, trivial⟩) (0, false, ws) s hw hp
            have cnt : ∀ (l : List Bnd) (a s' : Nat × Bool × List Lvl), runG passG l a = .inr s' → s'.1 = a.1 + l.length := by
              intro l
              induction l with
              | nil => intro a s' h; cases h; rfl
              | cons b l ih =>
                intro a s' h
                unfold runG at h
                cases hx : passG a b with
                | inl e => rw [hx] at h; cases h
                | inr a1 =>
                  rw [hx] at h
                  have := ih a1 s' h
                  have h1 : a1.1 = a.1 + 1 := by
                    unfold passG at hx
                    cases hvv : visL b a.2.2 with
                    | inl r => rw [hvv] at hx; cases hx
                    | inr r => rw [hvv] at hx; cases hx; rfl
                  rw [this, h1, List.length_cons]; omega
            have := cnt bs (0, false, ws) s hp
            simpa using this
          rw [← e1, ← ew]
      | true =>
        rw [ha1] at s15 s16
        have hmu : mu ws < mu s.2.2 := by
          rcases hg with h | h
          · rw [h] at ha1; cases ha1
          · exact h.2
        obtain ⟨h1, h2, h3⟩ := both_loops hb hl ha k s.2.2 hv (by omega) N (by omega)
        refine ⟨?_, ?_, h3⟩
        · simp only [loopN, s15, Bool.not_true, cond_false]; exact h1
        · rw [loopN, s16]; exact h2

/-! ### Check says that bounds are in order -/
theorem firstR_at {α β : Type} {f : Nat → α → Option β} : ∀ (l : List α) (k : Nat), firstR f l k = none → ∀ x ∈ l, ∃ j, f j x = none
  | [], _, _, x, hx => by cases hx
  | y :: l, k, h, x, hx => by
    unfold firstR at h
    cases hf : f k y with
    | some b => rw [hf] at h; cases h
    | none =>
      rw [hf] at h
      rcases List.mem_cons.1 hx with rfl | hx
      · exact ⟨k, hf⟩
      · exact firstR_at l (k + 1) h x hx
theorem firstR_some {α β : Type} {f : Nat → α → Option β} {b : β} : ∀ (l : List α) (k : Nat), firstR f l k = some b → ∃ j x, f j x = some b
  | [], _, h => by cases h
  | y :: l, k, h => by
    unfold firstR at h
    cases hf : f k y with
    | some c => rw [hf] at h; cases h; exact ⟨k, y, hf⟩
    | none => rw [hf] at h; exact firstR_some l (k + 1) h
theorem bey_in {L : Lvl} {m : Int} (hm : 0 ≤ m) (h : validB L = true) (hb : beyB L m = false) : LvlIn m.toNat L := by
  refine ⟨h, fun v hv hn => ?_⟩
  rw [beyB_valid h, List.any_eq_false] at hb
  have := hb v hv
  simp only [Bool.and_eq_true, decide_eq_true_eq, not_and] at this
  have := this hn
  omega
theorem chk_in {m : Int} {bs : List Bnd} (h : (chkL m bs).2 = 0) : 0 ≤ m ∧ m ≤ 2000 ∧ BndsIn m.toNat bs := by
  unfold chkL at h
  by_cases hm : m < 0 ∨ 2000 < m
  · rw [if_pos hm] at h; cases h
  · rw [if_neg hm] at h
    refine ⟨by omega, by omega, fun b hb => ?_⟩
    have hn : firstR (chkF m) bs 0 = none := by
      cases hf : firstR (chkF m) bs 0 with
      | none => rfl
      | some r =>
        rw [hf] at h
        obtain ⟨j, x, hx⟩ := firstR_some _ _ hf
        unfold chkF at hx
        by_cases hc : chkB m x = 0
        · rw [hc] at hx; cases hx
        · rw [if_neg (by simpa using hc)] at hx
          cases hx
          exact absurd h hc
    obtain ⟨j, hj⟩ := firstR_at _ _ hn b hb
    unfold chkF at hj
    have hc : chkB m b = 0 := by
      by_cases hc : chkB m b = 0
      · exact hc
      · rw [if_neg (by simpa using hc)] at hj; cases hj
    unfold chkB at hc
    cases hlo : validB b.lo <;> cases hhi : validB b.hi <;> rw [hlo, hhi] at hc
    · cases hc
    · cases hc
    · cases hc
    · cases h1 : beyB b.lo m <;> cases h2 : beyB b.hi m <;> rw [h1, h2] at hc
      · exact ⟨bey_in (by omega) hlo h1, bey_in (by omega) hhi h2⟩
      · cases hc
      · cases hc
      · cases hc

/-- what Solve returns -/
def zeros (n : Nat) : List Lvl := List.replicate n ⟨0, []⟩
theorem zeros_vals {n : Nat} (h : n ≤ 100000) : Vals n (zeros n) := ⟨List.length_replicate, fun w hw => by rw [List.eq_of_mem_replicate hw]; rfl, h⟩
def solL (m : Int) (bs : List Bnd) : List Lvl × Int × Int := if (chkL m bs).2 = 0 then Sum.elim (fun ws => (ws, 0, 0)) id (outS (solveN bs 20000 (zeros m.toNat))) else ([], chkL m bs)

theorem solve_eqs {m : Int} {bs : List Bnd} (hs : shortVs bs) (hm : m ≤ 10 ∨ 2000 < m) : m15 m bs = some (solL m bs) ∧ m16 m bs = some (solL m bs) ∧
    ((solL m bs).2.2 = 0 → 0 ≤ m ∧ m ≤ 10 ∧ BndsIn m.toNat bs ∧ Vals m.toNat (solL m bs).1 ∧ passL bs (solL m bs).1 = .inr (bs.length, false, (solL m bs).1) ∧ solveN bs 20000 (zeros m.toNat) = .inr (solL m bs).1) ∧ ((solL m bs).2.2 ≠ 0 → (solL m bs).1 = []) := by
  unfold m15 m16 solL
  rw [m13_eq m bs hs, m14_eq m bs hs, Option.bind_some, Option.bind_some]
  by_cases hc : (chkL m bs).2 = 0
  · obtain ⟨h0, h1, hB⟩ := chk_in hc
    have e1 : ((chkL m bs).2 != 0) = false := by rw [hc]; rfl
    have hn : m.toNat ≤ 10 := by omega
    have hz := zeros_vals (n := m.toNat) (by omega)
    obtain ⟨l15, l16, l3⟩ := both_loops hB (by have := hs.1; omega) rfl 20000 (zeros m.toNat) hz (by have : m.toNat * 908 ≤ 10 * 908 := Nat.mul_le_mul_right _ hn; omega) 999999 (by decide)
    have l15' := (both_loops hB (by have := hs.1; omega) rfl 20000 (zeros m.toNat) hz (by have : m.toNat * 908 ≤ 10 * 908 := Nat.mul_le_mul_right _ hn; omega) FUEL (by decide)).1
    have l16' : loopN (m16_l1 bs m) FUEL (true, zeros m.toNat) = some (outS (solveN bs 20000 (zeros m.toNat))) := l16
    rw [e1, cond_false, if_pos hc, guard_t (by rw [decide_eq_true h0, cond_true]; exact ble_t (by omega))]
    rw [cond_false, guard_t (by rw [decide_eq_true h0, cond_true]; exact ble_t (by omega))]
    show Option.bind (loopN (m15_l1 bs m) FUEL (zeros m.toNat)) _ = _ ∧ Option.bind (loopN (m16_l1 bs m) FUEL (true, zeros m.toNat)) _ = _ ∧ _
    rw [l15', l16', Option.bind_some]
    cases hr : solveN bs 20000 (zeros m.toNat) with
    | inl i => exact ⟨rfl, rfl, fun h => (by cases h), fun _ => rfl⟩
    | inr ws =>
      obtain ⟨v1, v2⟩ := l3 ws hr
      have eb : Nat.beq ws.length m.toNat = true := by rw [v1.len]; exact Nat.beq_refl _
      refine ⟨?_, ?_, fun _ => ⟨h0, by omega, hB, v1, v2, rfl⟩, fun h => absurd rfl h⟩
      · show guardO (Nat.beq ws.length m.toNat) _ = _; rw [guard_t eb]; rfl
      · show guardO (Nat.beq ws.length m.toNat) _ = _; rw [guard_t eb]; rfl
  · have e1 : ((chkL m bs).2 != 0) = true := by simpa using hc
    rw [e1, cond_true, if_neg hc]
    exact ⟨rfl, rfl, fun h => absurd h hc, fun _ => rfl⟩
end Go.Proofs.Ytkimijmiphkddaa
