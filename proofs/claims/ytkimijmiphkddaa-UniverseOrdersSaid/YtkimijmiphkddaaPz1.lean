/- Plain laws: bounds whose High has at most one metavariable. -/
import Derived.Test.YtkimijmiphkddaaPz
import Derived.Test.YtkimijmiphkddaaMz
namespace Go.Proofs.Ytkimijmiphkddaa
open Go.RowKit
set_option linter.unusedSimpArgs false
set_option linter.unusedVariables false

def cntL (vs : List LV) : Nat := (vs.filter fun x => decide (x.1 < 0)).length
def oneB (b : Bnd) : Bool := decide (cntL b.hi.vs ≤ 1)
theorem oneB_one {b : Bnd} (h : oneB b = true) : oneM b.hi := by
  intro u hu v hv hu0 hv0
  have h1 : u ∈ b.hi.vs.filter fun x => decide (x.1 < 0) := List.mem_filter.2 ⟨hu, decide_eq_true hu0⟩
  have h2 : v ∈ b.hi.vs.filter fun x => decide (x.1 < 0) := List.mem_filter.2 ⟨hv, decide_eq_true hv0⟩
  have h3 : (b.hi.vs.filter fun x => decide (x.1 < 0)).length ≤ 1 := of_decide_eq_true h
  match hl : b.hi.vs.filter fun x => decide (x.1 < 0) with
  | [] => rw [hl] at h1; cases h1
  | [x] =>
    rw [hl] at h1 h2
    simp at h1 h2
    rw [h1, h2]
  | x :: y :: r => rw [hl] at h3; simp at h3
theorem cnt_fold : ∀ (l : List LV) (c : Nat), l.foldl (fun (c : Nat) x => if x.1 < 0 then c + 1 else c) c = c + cntL l
  | [], c => rfl
  | x :: l, c => by
    rw [List.foldl_cons, cnt_fold l]
    unfold cntL
    by_cases h : x.1 < 0
    · rw [if_pos h, List.filter_cons_of_pos (by simpa using h), List.length_cons]; omega
    · rw [if_neg h, List.filter_cons_of_neg (by simpa using h)]
theorem m22_l0_eq {bs : List Bnd} {k : Nat} {b : Bnd} (hb : bs[k]? = some b) (hl : b.hi.vs.length ≤ 100000) : loopN (m22_l0 bs (k : Int)) FUEL (0, 0) = some ((cntL b.hi.vs : Nat) : Int) := by
  have eb : idx bs (k : Int) = some b := idx_nat (Int.natCast_nonneg _) (by simpa using hb)
  have key := fold_loopG (step := m22_l0 bs (k : Int)) (l := b.hi.vs) (fun i (s : Nat) => ((s : Int), i)) (fun s => (s : Int)) (fun (c : Nat) x => if x.1 < 0 then c + 1 else c) (fun k s => s ≤ k) (by omega) (fun j x s hx hs => by
    have hj := (List.getElem?_eq_some_iff.1 hx).1
    unfold m22_l0
    dsimp only
    rw [eb, Option.bind_some, decide_eq_true (by omega : (j : Int) < b.hi.vs.length), cond_true, Option.bind_some, idx_nat (Int.natCast_nonneg _) (by simpa using hx), Option.bind_some]
    by_cases h : x.1 < 0
    · rw [decide_eq_true h, cond_true, if_pos h, w64_id (n := (s : Int) + 1) (by omega) (by omega)]
      exact ⟨rfl, by omega⟩
    · rw [decide_eq_false h, cond_false, if_neg h]
      exact ⟨rfl, by omega⟩) (fun s _ => by unfold m22_l0; dsimp only; rw [eb, Option.bind_some, decide_eq_false (by omega), cond_false]) 0 (Nat.le_refl _)
  rw [cnt_fold, Nat.zero_add] at key
  exact key
theorem m22_eq {bs : List Bnd} (hs : shortVs bs) : m22 bs = some (bs.all oneB) := by
  unfold m22
  have key := scan_loop (step := m22_l1 bs) (l := bs) (fun _ b => if !(oneB b) then some false else none) (by have := hs.1; omega) (fun k b hb => by
    have hk := (List.getElem?_eq_some_iff.1 hb).1
    unfold m22_l1
    rw [decide_eq_true (by omega : (k : Int) < bs.length), cond_true, m22_l0_eq hb (hs.2 b (List.mem_of_getElem? hb)).2, Option.bind_some]
    unfold oneB
    by_cases h : cntL b.hi.vs ≤ 1
    · rw [decide_eq_true h, decide_eq_false (by omega), cond_false]; rfl
    · rw [decide_eq_false h, decide_eq_true (by omega), cond_true]; rfl) (by unfold m22_l1; rw [decide_eq_false (by omega), cond_false])
  rw [key, firstR_const]
  cases bs.all oneB <;> rfl
theorem all_one {bs : List Bnd} (h : bs.all oneB = true) : ∀ b ∈ bs, oneM b.hi := fun b hb => oneB_one (List.all_eq_true.1 h b hb)

/-- a bound repeated at the end changes nothing -/
theorem sol_twice {n : Nat} (hn : n ≤ 10) {bs : List Bnd} (hs : shortVs bs) (h1 : ∀ b ∈ bs, oneM b.hi) {b : Bnd} (hb : b ∈ bs) (hs2 : shortVs (bs ++ [b])) (h : (solL n bs).2.2 = 0) : solL n (bs ++ [b]) = ((solL n bs).1, 0, 0) := by
  have hm : ∀ x ∈ bs ++ [b], x ∈ bs := fun x hx => (List.mem_append.1 hx).elim id fun k => by simp at k; rw [k]; exact hb
  obtain ⟨c1, -, -, -, v1, -⟩ := (solve15 hs (.inl (by omega))).2.1 h
  have H1 := sol_holds hs (.inl (by omega)) h
  obtain ⟨cm, cz⟩ := chk_zero c1
  have c2 : (chkL n (bs ++ [b])).2 = 0 := chk_of cm fun x hx => cz x (hm x hx)
  obtain ⟨e2, l2⟩ := least c2 (fun x hx => h1 x (hm x hx)) v1 fun x hx => H1 x (hm x hx)
  have h2 : (solL n (bs ++ [b])).2.2 = 0 := by rw [e2]
  obtain ⟨-, -, -, -, v2, -⟩ := (solve15 hs2 (.inl (by omega))).2.1 h2
  have H2 := sol_holds hs2 (.inl (by omega)) h2
  obtain ⟨-, l1⟩ := least c1 h1 v2 fun x hx => H2 x (List.mem_append_left _ hx)
  have e1 := antiM v2 v1 l2 l1
  exact Prod.ext e1 e2
end Go.Proofs.Ytkimijmiphkddaa
