/- Plain laws of Parse: both ways of reading a level say what one plain reading says. -/
import Derived.Test.YtcapifnaceegmaaGreatDoorMk5
import Derived.Test.YtcapifnaceegmaaGreatDoorPb
namespace Go.Proofs.YtcapifnaceegmaaGreatDoor
open Go.RowKit
set_option linter.unusedSimpArgs false
set_option linter.unusedVariables false

abbrev Bs := List UInt8
/-! ### The plain reading -/
def isD (b : UInt8) : Bool := decide (48 ≤ b.toNat) && decide (b.toNat ≤ 57)
def dig (s : Bs) : Bs := s.takeWhile isD
def numV (ds : Bs) : Nat := ds.foldl (fun a b => 10 * a + (b.toNat - 48)) 0
def badD (ds : Bs) : Bool := decide (ds.length = 0) || decide (6 < ds.length) || (decide (1 < ds.length) && (ds.head? == some 48))
def numP (s : Bs) : Option (Nat × Bs) := if badD (dig s) then none else some (numV (dig s), s.drop (dig s).length)
def sp (s : Bs) : Bs := s.dropWhile (· == 32)
def tkc (c : UInt8) : Bs → Option Bs
  | b :: r => if b = c then some r else none
  | [] => none
def varR (i n : Int) : Lvl × Int := if i < -65536 ∨ 7 < i ∨ n < 0 then (⟨0, []⟩, 2) else if 100 < n then (⟨0, []⟩, 15) else (⟨0, [(i, n)]⟩, 0)
def ofR (n : Int) : Lvl × Int := if n < 0 then (⟨0, []⟩, 2) else if 100 < n then (⟨0, []⟩, 15) else (⟨n, []⟩, 0)
def goP (neg : Bool) (t : Bs) : Option ((Lvl × Int) × Bs) := match numP t with
  | none => none
  | some (n, r) => match tkc 43 (sp r) with
    | none => some (varR (if neg then -1 - (n : Int) else n) 0, sp r)
    | some r2 => match numP (sp r2) with
      | none => none
      | some (p, r3) => some (varR (if neg then -1 - (n : Int) else n) p, r3)
def partP (t : Bs) : Option ((Lvl × Int) × Bs) := match tkc 117 t with
  | some t' => goP false t'
  | none => match tkc 63 t with
    | some t' => goP true t'
    | none => match numP t with
      | none => none
      | some (n, r) => some (ofR n, r)
def restP : Nat → Bs → Option (List (Lvl × Int) × Bs)
  | 0, _ => none
  | n + 1, t => match partP (sp t) with
    | none => none
    | some (x, r) => match tkc 44 (sp r) with
      | none => some ([x], sp r)
      | some r2 => match restP n r2 with
        | none => none
        | some (xs, r3) => some (x :: xs, r3)
def tailP (n : Nat) (t : Bs) : Option (List (Lvl × Int) × Bs) := match tkc 44 t with
  | none => some ([], t)
  | some r2 => restP n r2
theorem rest_tail (n : Nat) (t : Bs) : restP (n + 1) t = match partP (sp t) with
    | none => none
    | some (x, r) => match tailP n (sp r) with
      | none => none
      | some (xs, r3) => some (x :: xs, r3) := by
  unfold restP tailP
  cases partP (sp t) with
  | none => rfl
  | some p =>
    dsimp only
    cases tkc 44 (sp p.2) <;> rfl
def parseP (s : Bs) : Option (List (Lvl × Int)) :=
  if Lib.hasPrefix (sp s) [109, 97, 120] then match tkc 40 (sp ((sp s).drop 3)) with
    | none => none
    | some t => match restP (s.length + 1) t with
      | none => none
      | some (xs, r) => match tkc 41 r with
        | none => none
        | some r2 => if sp r2 = [] then some xs else none
  else match partP (sp s) with
    | none => none
    | some (x, r) => if sp r = [] then some [x] else none
def firstE (e : Int) (xs : List (Lvl × Int)) : Int := xs.foldl (fun e x => if e = 0 then x.2 else e) e
def joinsL (o : Lvl) (xs : List (Lvl × Int)) : Lvl := xs.foldl (fun o x => joinL o x.1) o
def resP (s : Bs) : Lvl × Int := match parseP s with
  | none => (⟨0, []⟩, 4)
  | some [] => (⟨0, []⟩, 4)
  | some (x :: xs) => if firstE 0 (x :: xs) = 0 then (joinsL x.1 xs, 0) else (⟨0, []⟩, firstE 0 (x :: xs))

/-! ### Small facts -/
theorem tw_get {p : UInt8 → Bool} : ∀ (s : Bs) (k : Nat), k < (s.takeWhile p).length → ∃ b, s[k]? = some b ∧ p b = true
  | [], k, h => by simp at h
  | b :: s, k, h => by
    rw [List.takeWhile_cons] at h
    split at h
    · rename_i hb
      cases k with
      | zero => exact ⟨b, rfl, hb⟩
      | succ k => exact tw_get s k (by simpa using h)
    · simp at h
theorem tw_end {p : UInt8 → Bool} : ∀ (s : Bs) (b : UInt8), s[(s.takeWhile p).length]? = some b → p b = false
  | [], b, h => by simp at h
  | c :: s, b, h => by
    rw [List.takeWhile_cons] at h
    split at h
    · rename_i hc
      exact tw_end s b (by simpa using h)
    · rename_i hc
      simp at h; subst h; simpa using hc
theorem tw_take {p : UInt8 → Bool} (s : Bs) : s.take (s.takeWhile p).length = s.takeWhile p := by
  conv => lhs; rw [← List.takeWhile_append_dropWhile (p := p) (l := s)]
  have h : ((s.takeWhile p ++ s.dropWhile p).takeWhile p).length = (s.takeWhile p).length := by rw [List.takeWhile_append_dropWhile]
  rw [h, List.take_left']
  rfl
theorem tw_drop {p : UInt8 → Bool} (s : Bs) : s.drop (s.takeWhile p).length = s.dropWhile p := by
  conv => lhs; rw [← List.takeWhile_append_dropWhile (p := p) (l := s)]
  have h : ((s.takeWhile p ++ s.dropWhile p).takeWhile p).length = (s.takeWhile p).length := by rw [List.takeWhile_append_dropWhile]
  rw [h, List.drop_left']
  rfl
theorem tw_le {p : UInt8 → Bool} (s : Bs) : (s.takeWhile p).length ≤ s.length := by
  have := congrArg List.length (List.takeWhile_append_dropWhile (p := p) (l := s))
  rw [List.length_append] at this; omega
theorem sp_len (s : Bs) : (sp s).length ≤ s.length := by
  have := congrArg List.length (List.takeWhile_append_dropWhile (p := fun b : UInt8 => b == 32) (l := s))
  rw [List.length_append] at this; unfold sp; omega
theorem sp_sp (s : Bs) : sp (sp s) = sp s := by
  unfold sp
  induction s with
  | nil => rfl
  | cons b s ih =>
    rw [List.dropWhile_cons]
    split
    · exact ih
    · rename_i h
      rw [List.dropWhile_cons, if_neg h]
theorem tkc_some {c : UInt8} {t r : Bs} (h : tkc c t = some r) : t = c :: r := by
  cases t with
  | nil => cases h
  | cons b t =>
    unfold tkc at h
    dsimp only at h
    split at h
    · rename_i hb
      have := Option.some.inj h
      subst this hb; rfl
    · cases h
theorem tkc_pre (c : UInt8) (t : Bs) : Lib.hasPrefix t [c] = (tkc c t).isSome ∧ Lib.trimPrefix t [c] = (tkc c t).getD t := by
  unfold Lib.trimPrefix Lib.hasPrefix
  cases t with
  | nil => exact ⟨rfl, rfl⟩
  | cons b t =>
    unfold tkc
    dsimp only
    by_cases h : b = c
    · subst h
      rw [if_pos rfl]
      simp [List.isPrefixOf]
    · rw [if_neg h]
      have : (c == b) = false := by simpa using fun e => h e.symm
      simp [List.isPrefixOf, this]
theorem num_len {t r : Bs} {v : Nat} (h : numP t = some (v, r)) : r.length < t.length ∧ r = t.drop (dig t).length ∧ v = numV (dig t) ∧ badD (dig t) = false := by
  unfold numP at h
  split at h
  · cases h
  · rename_i hb
    cases h
    refine ⟨?_, rfl, rfl, by simpa using hb⟩
    have h1 : (dig t).length ≠ 0 := fun h0 => by simp [badD, h0] at hb
    have h2 : (dig t).length ≤ t.length := tw_le t
    rw [List.length_drop]; omega
theorem go_len {neg : Bool} {t r : Bs} {x : Lvl × Int} (h : goP neg t = some (x, r)) : r.length < t.length := by
  unfold goP at h
  split at h
  · cases h
  · rename_i n r1 h1
    have l1 := (num_len h1).1
    have l2 := sp_len r1
    split at h
    · cases h; omega
    · rename_i r2 h2
      have l3 := congrArg List.length (tkc_some h2)
      rw [List.length_cons] at l3
      have l4 := sp_len r2
      split at h
      · cases h
      · rename_i p r3 h3
        have l5 := (num_len h3).1
        cases h; omega
theorem part_len {t r : Bs} {x : Lvl × Int} (h : partP t = some (x, r)) : r.length < t.length := by
  unfold partP at h
  split at h
  · rename_i t' h1
    have l1 := congrArg List.length (tkc_some h1)
    rw [List.length_cons] at l1
    have := go_len h; omega
  · split at h
    · rename_i t' h1
      have l1 := congrArg List.length (tkc_some h1)
      rw [List.length_cons] at l1
      have := go_len h; omega
    · split at h
      · cases h
      · rename_i n r1 h1
        cases h; exact (num_len h1).1

/-! ### Numbers -/
theorem dec_from : ∀ (ds : Bs) (acc : Nat), (∀ b ∈ ds, isD b = true) → Lib.decFrom acc ds = some (ds.foldl (fun a b => 10 * a + (b.toNat - 48)) acc)
  | [], acc, _ => rfl
  | b :: ds, acc, h => by
    have hb := h b List.mem_cons_self
    simp only [isD, Bool.and_eq_true, decide_eq_true_eq] at hb
    have hd : Lib.digitVal b = some (b.toNat - 48) := by unfold Lib.digitVal; rw [if_pos hb]
    unfold Lib.decFrom
    rw [hd]
    dsimp only
    rw [dec_from ds _ (fun c hc => h c (List.mem_cons_of_mem _ hc)), List.foldl_cons, Nat.mul_comm acc 10]
theorem dig_isD {s : Bs} : ∀ b ∈ dig s, isD b = true := fun b hb => by
  have := List.all_takeWhile (p := isD) (l := s)
  exact List.all_eq_true.1 this b hb
theorem atoi_dig {s : Bs} (h : dig s ≠ []) : Lib.atoi (dig s) = some ((numV (dig s) : Nat) : Int) := by
  have hd := dig_isD (s := s)
  generalize dig s = ds at h hd
  cases ds with
  | nil => exact absurd rfl h
  | cons b ds =>
    have hb := hd b List.mem_cons_self
    simp only [isD, Bool.and_eq_true, decide_eq_true_eq] at hb
    unfold Lib.atoi
    dsimp only
    have h1 : (b == 45) = false := by
      cases hc : (b == 45) with
      | false => rfl
      | true => have := eq_of_beq hc; subst this; exact absurd hb.1 (by decide)
    have h2 : (b == 43) = false := by
      cases hc : (b == 43) with
      | false => rfl
      | true => have := eq_of_beq hc; subst this; exact absurd hb.1 (by decide)
    rw [h1, h2, if_neg Bool.false_ne_true, if_neg Bool.false_ne_true]
    unfold Lib.decNat
    rw [show (b :: ds).isEmpty = false from rfl, if_neg Bool.false_ne_true, dec_from _ 0 hd]
    rfl
theorem idx_lt {s : Bs} {k : Nat} {b : UInt8} (h : s[k]? = some b) : idx s (k : Int) = some b := h
theorem isD_int (b : UInt8) : isD b = (decide (48 ≤ (b.toNat : Int)) && decide ((b.toNat : Int) ≤ 57)) := by
  unfold isD
  congr 1 <;> (apply Bool.eq_iff_iff.2; simp only [decide_eq_true_eq]; omega)

theorem numV_lt : ∀ (ds : Bs) (acc : Nat), (∀ b ∈ ds, isD b = true) → ds.foldl (fun a b => 10 * a + (b.toNat - 48)) acc + 1 ≤ (acc + 1) * 10 ^ ds.length
  | [], acc, _ => by simp
  | b :: ds, acc, h => by
    have hb := h b List.mem_cons_self
    simp only [isD, Bool.and_eq_true, decide_eq_true_eq] at hb
    rw [List.foldl_cons]
    refine Nat.le_trans (numV_lt ds _ (fun c hc => h c (List.mem_cons_of_mem _ hc))) ?_
    rw [List.length_cons, Nat.pow_succ, Nat.mul_comm _ 10, ← Nat.mul_assoc]
    refine Nat.mul_le_mul_right _ ?_
    omega
theorem num_small {t r : Bs} {v : Nat} (h : numP t = some (v, r)) : v < 1000000 := by
  obtain ⟨-, -, h2, h3⟩ := num_len h
  have h4 := numV_lt (dig t) 0 dig_isD
  have h5 : (dig t).length ≤ 6 := by
    simp [badD] at h3; omega
  have h6 : 10 ^ (dig t).length ≤ 10 ^ 6 := Nat.pow_le_pow_right (by decide) h5
  have h7 : (10 : Nat) ^ 6 = 1000000 := by decide
  unfold numV at h2
  omega
theorem m81_loop {s : Bs} (hs : s.length ≤ 100000) : loopN (m81f3_l0 s) FUEL 0 = some ((dig s).length : Int) := by
  refine loop_spec (fun i => ∃ k : Nat, i = (k : Int) ∧ k ≤ (dig s).length) (fun i => (dig s).length - i.toNat) (fun _ => ((dig s).length : Int)) ?_ FUEL 0 ⟨0, rfl, Nat.zero_le _⟩ ?_
  · rintro i ⟨k, rfl, hk⟩
    have hle : (dig s).length ≤ s.length := tw_le s
    unfold m81f3_l0
    by_cases hlt : k < (dig s).length
    · obtain ⟨b, hb, hd⟩ := tw_get s k hlt
      rw [isD_int] at hd
      simp only [Bool.and_eq_true] at hd
      right
      refine ⟨((k + 1 : Nat) : Int), ?_, ⟨k + 1, rfl, hlt⟩, by simp only [Int.toNat_natCast]; omega, rfl⟩
      rw [decide_eq_true (by omega : (k : Int) < s.length), cond_true, idx_lt hb]
      simp only [Option.bind_some, hd.1, hd.2, cond_true]
      rw [w64_id (by omega) (by omega)]; rfl
    · have hk' : k = (dig s).length := by omega
      subst hk'
      left
      cases hb : s[(dig s).length]? with
      | none =>
        have := List.getElem?_eq_none_iff.1 hb
        rw [decide_eq_false (by omega : ¬ ((dig s).length : Int) < s.length)]
        rfl
      | some b =>
        have hd := tw_end s b hb
        have := (List.getElem?_eq_some_iff.1 hb).1
        rw [decide_eq_true (by omega : ((dig s).length : Int) < s.length), cond_true, idx_lt hb]
        rw [isD_int] at hd
        simp only [Option.bind_some]
        cases h1 : decide (48 ≤ (b.toNat : Int)) with
        | false => rfl
        | true =>
          rw [h1, Bool.true_and] at hd
          rw [hd]; rfl
  · have : (dig s).length ≤ s.length := tw_le s
    show (dig s).length - 0 < FUEL
    unfold FUEL; omega
theorem m81_eq {s : Bs} (hs : s.length ≤ 100000) (bad : Bool) (e C : Int) (M : IMap) : ∃ x, m81f3 s bad e C M = some x ∧ match numP s with
    | some (v, r) => x = ((v : Int), r, bad)
    | none => x.2.2 = true := by
  have hle : (dig s).length ≤ s.length := tw_le s
  unfold m81f3
  rw [m81_loop hs, Option.bind_some]
  have g : (cond (decide (0 ≤ ((dig s).length : Int))) (Nat.ble ((dig s).length : Int).toNat s.length) false) = true := by
    rw [decide_eq_true (by omega), cond_true]; exact ble_t (by simpa using hle)
  rw [guard_t g, guard_t g, Int.toNat_natCast]
  have ht : s.take (dig s).length = dig s := tw_take s
  rw [ht]
  unfold numP badD
  by_cases h0 : (dig s).length = 0
  · rw [show (((dig s).length : Int) == 0) = true by simpa using h0, cond_true]
    refine ⟨_, rfl, ?_⟩
    rw [if_pos (by simp [h0])]
  · rw [show (((dig s).length : Int) == 0) = false by simpa using h0, cond_false]
    by_cases h6 : 6 < (dig s).length
    · rw [decide_eq_true (by omega : (6 : Int) < (dig s).length), cond_true]
      refine ⟨_, rfl, ?_⟩
      rw [if_pos (by simp [h6])]
    · rw [decide_eq_false (by omega : ¬ (6 : Int) < (dig s).length), cond_false]
      have hne : dig s ≠ [] := fun h => h0 (by rw [h]; rfl)
      have ha := atoi_dig hne
      obtain ⟨b, ds, hds⟩ : ∃ b ds, dig s = b :: ds := by
        cases h : dig s with
        | nil => exact absurd h hne
        | cons b ds => exact ⟨b, ds, rfl⟩
      have g2 : (cond (Nat.ble (dig s).length 18) (Lib.atoi (dig s)).isSome false) = true := by rw [ble_t (by omega), cond_true, ha]; rfl
      have hi : idx (dig s) 0 = some b := by rw [hds]; rfl
      have hh : (dig s).head? = some b := by rw [hds]; rfl
      by_cases h1 : 1 < (dig s).length
      · rw [decide_eq_true (by omega : (1 : Int) < (dig s).length), cond_true, hi, hh]
        simp only [Option.bind_some]
        by_cases hb : b = 48
        · subst hb
          refine ⟨_, rfl, ?_⟩
          rw [if_pos (by simp [h1])]
        · have e1 : ((b.toNat : Int) == 48) = false := by
            have : b.toNat ≠ 48 := fun e => hb (UInt8.toNat_inj.1 e)
            simpa using fun e : (b.toNat : Int) = 48 => this (by omega)
          rw [e1, cond_false, guard_t g2]
          refine ⟨_, rfl, ?_⟩
          rw [if_neg (by simp [h0, h6, hb])]
          dsimp only
          unfold atoiL
          rw [ha]; rfl
      · rw [decide_eq_false (by omega : ¬ (1 : Int) < (dig s).length), cond_false, Option.bind_some, cond_false, guard_t g2]
        refine ⟨_, rfl, ?_⟩
        rw [if_neg (by simp [h0, h6, h1])]
        dsimp only
        unfold atoiL
        rw [ha]; rfl
end Go.Proofs.YtcapifnaceegmaaGreatDoor
