/- The statement DependSortsUpto is proved here: for every list of declarations the law returns true, and the list reads behind the call as it did before; condition: the list is of bulk at most 1048576 (the second form). -/
import Derived.Test.YtijcchddnnnmdaaK75
import Derived.Test.YtijcchddnnnmdaaRows
import Derived.Test.YtijcchddnnnmdaaProg
import Derived.Test.YtijcchddnnnmdaaChecked
import Derived.ProofKit
import Derived.Carry
import Derived.JoinedCond
namespace Go.Proofs.Ytijcchddnnnmdaa
open Go.RowKit Go.ChangeShapes Go.WideShapes
set_option linter.unusedSimpArgs false
set_option linter.unusedVariables false
set_option linter.unusedSectionVars false
theorem bulk_pos {H : Type} (d : DataW H) : 1 ≤ Rows.uptoBulk d := by
  cases d with
  | lit l => cases l <;> simp [Rows.uptoBulk]
  | nil => simp [Rows.uptoBulk]
  | ptr d => simp [Rows.uptoBulk]
  | slice elems spare => simp [Rows.uptoBulk]
  | agg parts => simp [Rows.uptoBulk]
  | iface t d => simp [Rows.uptoBulk]
  | map entries => simp [Rows.uptoBulk]
  | held h => simp [Rows.uptoBulk]
theorem bulk_all {H : Type} : ∀ l : List (DataW H), Rows.uptoBulkAll l = (l.map Rows.uptoBulk).sum
  | [] => by simp [Rows.uptoBulkAll]
  | x :: l => by simp only [Rows.uptoBulkAll, List.map_cons, List.sum_cons, bulk_all l]
theorem RC.nil {w : World} {cs : List Value} : RC w [] (cs.take 0) := ⟨by simp, fun j c h => by cases h⟩
theorem RC.snoc {w : World} {e0 e1 : List C} {cs : List Value} {m k : Nat} (h0 : RC w e0 (cs.take m)) (h1 : RC w e1 ((cs.drop m).take k)) (hm : e0.length = m) : RC w (e0 ++ e1) (cs.take (m + k)) := by
  have h2 := h0.1
  have h3 := h1.1
  refine RC.app ?_ ?_ ?_
  · rw [List.take_take, hm, Nat.min_eq_left (by omega)]; exact h0
  · rw [hm, List.drop_take, Nat.add_sub_cancel_left]; exact h1
  · rw [← h3, hm]
    simp only [List.length_take, List.length_drop] at h2 ⊢
    omega
section
variable {H : Type} (enc : TypeId × Value → H) (P : Program) (w : World)
def OpensZ (N : Nat) (t : TypeId) (α : Type) [Enc α] (μ : α → Nat) : Prop := ∀ (fuel : Nat) (cs : List Value) (x : DataW H × List MemPlace), DataW.trod enc P w 0 (fun _ => true) true fuel t cs = some x → Rows.uptoBulk x.1 ≤ N → ∃ v : α, RC w (Enc.enc v) cs ∧ μ v ≤ Rows.uptoBulk x.1
end
section
variable {H : Type} {enc : TypeId × Value → H} {P : Program} {w : World} {N : Nat}
theorem z_int {t : TypeId} (ht : P.underlying t = some (.int .i64)) : OpensZ enc P w N t Int (fun _ => 1) := by
  intro fuel cs x h hb
  obtain ⟨n, rfl, rfl, -⟩ := DataW.trod_int ht h
  refine ⟨n, ⟨rfl, fun j c hj => ?_⟩, bulk_pos _⟩
  cases j with
  | zero => cases hj; exact ⟨_, rfl, Reads.v _ rfl⟩
  | succ j => cases hj
theorem z_bool {t : TypeId} (ht : P.underlying t = some .bool) : OpensZ enc P w N t Bool (fun _ => 1) := by
  intro fuel cs x h hb
  obtain ⟨n, rfl, rfl⟩ := DataW.trod_bool ht h
  refine ⟨n, ⟨rfl, fun j c hj => ?_⟩, bulk_pos _⟩
  cases j with
  | zero => cases hj; exact ⟨_, rfl, Reads.v _ rfl⟩
  | succ j => cases hj
theorem z_str {t : TypeId} (ht : P.underlying t = some .string) : OpensZ enc P w N t Bs (fun s => 1 + s.length) := by
  intro fuel cs x h hb
  obtain ⟨s, rfl, rfl, -⟩ := DataW.trod_string ht h
  refine ⟨s.data.toList, ⟨rfl, fun j c hj => ?_⟩, by simp [Rows.uptoBulk]; omega⟩
  cases j with
  | zero => cases hj; exact ⟨_, rfl, by rw [show sB s.data.toList = s from rfl]; exact Reads.v _ rfl⟩
  | succ j => cases hj
theorem z_slice {α : Type} [Enc α] [EncLen α] {μ : α → Nat} {t e : TypeId} (ht : P.underlying t = some (.slice e)) (hc : P.cellsOf e = Enc.sz α) (ho : OpensZ enc P w N e α μ) : OpensZ enc P w N t (List α) (fun l => 1 + (l.map μ).sum) := by
  intro fuel cs x h hb
  rcases Deep.open_slice ht h with ⟨rfl, rfl⟩ | ⟨a, len, cap, m, n, D, Pl, rfl, -, hlc, -, hm, rfl, hel⟩
  · refine ⟨[], ⟨rfl, fun j c hj => ?_⟩, by simp [Rows.uptoBulk]⟩
    cases j with
    | zero =>
      cases hj
      refine ⟨_, rfl, ?_⟩
      rw [Enc.nil]
      exact .sl _ [] none 0 0 0 (fun _ _ => undef) (Nat.le_refl _) (fun h => absurd rfl h) (fun i e h => by simp at h) (fun i e j c h => by simp at h) (fun i e j c h => by simp at h) (fun i e j c h => by simp at h)
    | succ j => cases hj
  · have hm' : m = cap := by rw [hm]; rfl
    have hbk : ((List.range len).map fun i => Rows.uptoBulk (D i)).sum + 1 ≤ Rows.uptoBulk (DataW.slice (H := H) ((List.range len).map D) ((List.range (m - len)).map fun j => D (len + j))) := by
      simp only [Rows.uptoBulk, bulk_all, List.map_map]
      have : (List.map (Rows.uptoBulk ∘ D) (List.range len)).sum = ((List.range len).map fun i => Rows.uptoBulk (D i)).sum := rfl
      omega
    dsimp only at hb
    have hD : ∀ k, k < len → Rows.uptoBulk (D k) ≤ N := fun k hk => by
      have := sum_mem (fun i => Rows.uptoBulk (D i)) (List.mem_range.2 hk)
      omega
    have hall : ∀ k, k ≤ len → ∃ l : List α, l.length = k ∧ (l.map μ).sum ≤ ((List.range k).map fun i => Rows.uptoBulk (D i)).sum ∧ ∀ (i : Nat) (v : α), l[i]? = some v → ∃ cs', w.cells? 0 (a.add (i * Enc.sz α)) (Enc.sz α) = some cs' ∧ RC w (Enc.enc v) cs' := by
      intro k
      induction k with
      | zero => intro _; exact ⟨[], rfl, Nat.le_refl _, fun i v h => by simp at h⟩
      | succ k ih =>
        intro hk
        obtain ⟨l, h1, hsum, h2⟩ := ih (by omega)
        obtain ⟨cs', h3, h4⟩ := hel k (by omega)
        rw [hc] at h3
        obtain ⟨v, hv, hμ⟩ := ho _ _ _ h4 (hD k (by omega))
        refine ⟨l ++ [v], by simp [h1], ?_, fun i v' hi => ?_⟩
        · rw [List.range_succ]
          simp only [List.map_append, List.map_cons, List.map_nil, List.sum_append, List.sum_cons, List.sum_nil]
          dsimp only at hμ
          omega
        rcases Nat.lt_or_ge i l.length with h | h
        · rw [List.getElem?_append_left h] at hi; exact h2 i v' hi
        · rw [List.getElem?_append_right h] at hi
          have hi0 : i - l.length = 0 := by
            rcases Nat.eq_zero_or_pos (i - l.length) with h0 | h0
            · exact h0
            · rw [List.getElem?_eq_none (by simp only [List.length_singleton]; omega)] at hi; cases hi
          have hik : i = k := by omega
          rw [hi0] at hi; cases hi
          rw [hik]; exact ⟨cs', h3, hv⟩
    obtain ⟨l, hl, hsum, hcells⟩ := hall len (Nat.le_refl _)
    have hpos : 0 < Enc.sz α := EncLen.pos
    have hspot : l ≠ [] → a.spot = none ∧ a.block < w.heap.size := by
      intro hne
      obtain ⟨v, r, rfl⟩ := List.exists_cons_of_ne_nil hne
      obtain ⟨cs', h1, h2⟩ := hcells 0 v rfl
      obtain ⟨-, h3, h4⟩ := World.cells?_some h1
      have h5 := h4 0 hpos
      rw [Nat.zero_mul, Deep.add_add, Nat.zero_add] at h5
      have h6 : (cs'[0]?).isSome := by rw [List.getElem?_eq_getElem (by omega)]; rfl
      rw [← h5] at h6
      have h7 : (a.add 0) = a := by simp [Addr.add]
      rw [h7] at h6
      unfold World.cell? at h6
      split at h6
      · rename_i c _ _ hb
        refine ⟨?_, (Array.getElem?_eq_some_iff.1 hb).1⟩
        split at h6
        · cases h6
        · rename_i hs
          cases hsp : a.spot with
          | none => rfl
          | some q => rw [hsp] at hs; exact absurd rfl hs
      · cases h6
    have hadd : l ≠ [] → ∀ k, a.add k = ⟨a.block, a.off + k, none⟩ := by
      intro hne k
      have h1 := (hspot hne).1
      unfold Addr.add
      split
      · rename_i h0; subst h0
        obtain ⟨b, o, sp⟩ := a
        simp only at h1; subst h1; rfl
      · rfl
    have hcell : ∀ (i : Nat) (e' : List C) (j : Nat) (c : C), (Enc.encL l)[i]? = some e' → e'[j]? = some c → ∃ u, w.cell? ⟨a.block, a.off + i * Enc.sz α + j, none⟩ = some u ∧ Reads (allS w) w c u := by
      intro i e' j c hi hj
      rw [Enc.map, List.getElem?_map] at hi
      cases hx : l[i]? with
      | none => rw [hx] at hi; cases hi
      | some v =>
        rw [hx] at hi; cases hi
        have hne : l ≠ [] := by intro h0; rw [h0] at hx; simp at hx
        obtain ⟨cs', h1, h2⟩ := hcells i v hx
        obtain ⟨u, h3, h4⟩ := h2.2 j c hj
        obtain ⟨-, h5, h6⟩ := World.cells?_some h1
        have hjl : j < Enc.sz α := by have := (List.getElem?_eq_some_iff.1 h3).1; omega
        have h7 := h6 j hjl
        rw [Deep.add_add, hadd hne, h3, ← Nat.add_assoc] at h7
        exact ⟨u, h7, h4⟩
    refine ⟨l, ⟨rfl, fun j c hj => ?_⟩, by dsimp only; omega⟩
    cases j with
    | succ j => cases hj
    | zero =>
      cases hj
      refine ⟨_, rfl, ?_⟩
      have hR := Reads.sl (S := allS w) (w := w) (Enc.sz α) (Enc.encL l) (some a) cap a.block a.off (fun i j => (w.cell? ⟨a.block, a.off + i * Enc.sz α + j, none⟩).getD undef) (by rw [Enc.len, hl]; exact hlc)
        (fun hne => by
          have hne' : l ≠ [] := by intro h0; rw [h0, Enc.nil] at hne; exact hne rfl
          have h7 : (a.add 0) = a := by simp [Addr.add]
          rw [← h7, hadd hne'])
        (fun i e' hi => encL_lens l e' (List.mem_of_getElem? hi))
        (fun i e' j c hi hj => by obtain ⟨u, h1, -⟩ := hcell i e' j c hi hj; rw [h1]; rfl)
        (fun i e' j c hi hj => by
          have hne : l ≠ [] := by intro h0; rw [h0, Enc.nil] at hi; simp at hi
          exact (hspot hne).2)
        (fun i e' j c hi hj => by obtain ⟨u, h1, h2⟩ := hcell i e' j c hi hj; rw [h1]; exact h2)
      rw [Enc.len, hl] at hR
      exact hR
theorem z_pos {α : Type} [Enc α] {μ : α → Nat} {t : TypeId} (h : ∀ N, OpensZ enc P w N t α μ → OpensZ enc P w (N + 1) t α μ) : ∀ N, OpensZ enc P w N t α μ
  | 0 => fun fuel cs x _ hb => by have := bulk_pos x.1; omega
  | N + 1 => h N (z_pos h N)
end
section
variable {H : Type} {enc : TypeId × Value → H} {w : World} {N : Nat}
theorem cells_3 : Try.prog.cellsOf 3 = 1 := by kernel_rfl
theorem cells_4 : Try.prog.cellsOf 4 = 1 := by kernel_rfl
theorem cells_9 : Try.prog.cellsOf 9 = 1 := by kernel_rfl
theorem cells_39 : Try.prog.cellsOf 39 = 1 := by kernel_rfl
theorem cells_40 : Try.prog.cellsOf 40 = 1 := by kernel_rfl
theorem cells_42 : Try.prog.cellsOf 42 = 5 := by kernel_rfl
theorem cells_43 : Try.prog.cellsOf 43 = 1 := by kernel_rfl
theorem cells_45 : Try.prog.cellsOf 45 = 7 := by kernel_rfl
theorem cells_46 : Try.prog.cellsOf 46 = 1 := by kernel_rfl
theorem cells_48 : Try.prog.cellsOf 48 = 23 := by kernel_rfl
theorem cells_84 : Try.prog.cellsOf 84 = 6 := by kernel_rfl
theorem cells_85 : Try.prog.cellsOf 85 = 1 := by kernel_rfl
theorem cells_87 : Try.prog.cellsOf 87 = 8 := by kernel_rfl
theorem cells_89 : Try.prog.cellsOf 89 = 15 := by kernel_rfl
theorem cells_100 : Try.prog.cellsOf 100 = 1 := by kernel_rfl
theorem cells_102 : Try.prog.cellsOf 102 = 2 := by kernel_rfl
theorem cells_115 : Try.prog.cellsOf 115 = 10 := by kernel_rfl
theorem cells_149 : Try.prog.cellsOf 149 = 2 := by kernel_rfl
theorem z_lv : OpensZ enc Try.prog w (N + 1) 149 LV (fun _ => 1) := by
  intro fuel cs x h hb
  obtain ⟨xs, n, _, rfl, hl, hlen, hf⟩ := DataW.trod_struct Try.underlying149 h
  match xs, hlen with
  | [y0, y1], _ =>
    have hb' : Rows.uptoBulk y0.1 + Rows.uptoBulk y1.1 + 1 ≤ Rows.uptoBulk (DataW.agg (H := H) [y0.1, y1.1]) := by simp only [Rows.uptoBulk, Rows.uptoBulkAll]; omega
    have hb2 : Rows.uptoBulk (DataW.agg (H := H) [y0.1, y1.1]) ≤ N + 1 := hb
    obtain ⟨v0, r0, m0⟩ := (z_int Try.underlying3 : OpensZ enc Try.prog w N _ _ _) n _ _ (hf 0 _ rfl) (by omega)
    change RC w (Enc.enc v0) ((cs.drop 0).take (Try.prog.cellsOf 3)) at r0
    rw [cells_3] at r0
    obtain ⟨v1, r1, m1⟩ := (z_int Try.underlying3 : OpensZ enc Try.prog w N _ _ _) n _ _ (hf 1 _ rfl) (by omega)
    change RC w (Enc.enc v1) ((cs.drop 1).take (Try.prog.cellsOf 3)) at r1
    rw [cells_3] at r1
    have hcs : cs.take 2 = cs := List.take_of_length_le (by rw [hl]; exact Nat.le_of_eq cells_149)
    have hR := ((((RC.nil).snoc (k := 1) r0 rfl)).snoc (k := 1) r1 rfl)
    refine ⟨(v0, v1), by rw [← hcs]; exact hR, Nat.le_trans ?_ hb'⟩
    show 1 ≤ _
    omega
theorem z_lv' : OpensZ enc Try.prog w N 149 LV (fun _ => 1) := z_pos (fun _ _ => z_lv) N
theorem z_lvl : OpensZ enc Try.prog w (N + 1) 102 Lvl (fun _ => 1) := by
  intro fuel cs x h hb
  obtain ⟨xs, n, _, rfl, hl, hlen, hf⟩ := DataW.trod_struct Try.underlying102 h
  match xs, hlen with
  | [y0, y1], _ =>
    have hb' : Rows.uptoBulk y0.1 + Rows.uptoBulk y1.1 + 1 ≤ Rows.uptoBulk (DataW.agg (H := H) [y0.1, y1.1]) := by simp only [Rows.uptoBulk, Rows.uptoBulkAll]; omega
    have hb2 : Rows.uptoBulk (DataW.agg (H := H) [y0.1, y1.1]) ≤ N + 1 := hb
    obtain ⟨v0, r0, m0⟩ := (z_int Try.underlying3 : OpensZ enc Try.prog w N _ _ _) n _ _ (hf 0 _ rfl) (by omega)
    change RC w (Enc.enc v0) ((cs.drop 0).take (Try.prog.cellsOf 3)) at r0
    rw [cells_3] at r0
    obtain ⟨v1, r1, m1⟩ := (z_slice Try.underlying100 (by kernel_rfl) z_lv' : OpensZ enc Try.prog w N _ _ _) n _ _ (hf 1 _ rfl) (by omega)
    change RC w (Enc.enc v1) ((cs.drop 1).take (Try.prog.cellsOf 100)) at r1
    rw [cells_100] at r1
    have hcs : cs.take 2 = cs := List.take_of_length_le (by rw [hl]; exact Nat.le_of_eq cells_102)
    have hR := ((((RC.nil).snoc (k := 1) r0 rfl)).snoc (k := 1) r1 rfl)
    refine ⟨⟨v0, v1⟩, by rw [← hcs]; exact hR, Nat.le_trans ?_ hb'⟩
    show 1 ≤ _
    omega
theorem z_lvl' : OpensZ enc Try.prog w N 102 Lvl (fun _ => 1) := z_pos (fun _ _ => z_lvl) N
theorem z_tm (hk : OpensZ enc Try.prog w N 42 Tm Tm.size) : OpensZ enc Try.prog w (N + 1) 42 Tm Tm.size := by
  intro fuel cs x h hb
  obtain ⟨xs, n, _, rfl, hl, hlen, hf⟩ := DataW.trod_struct Try.underlying42 h
  match xs, hlen with
  | [y0, y1, y2, y3, y4], _ =>
    have hb' : Rows.uptoBulk y0.1 + Rows.uptoBulk y1.1 + Rows.uptoBulk y2.1 + Rows.uptoBulk y3.1 + Rows.uptoBulk y4.1 + 1 ≤ Rows.uptoBulk (DataW.agg (H := H) [y0.1, y1.1, y2.1, y3.1, y4.1]) := by simp only [Rows.uptoBulk, Rows.uptoBulkAll]; omega
    have hb2 : Rows.uptoBulk (DataW.agg (H := H) [y0.1, y1.1, y2.1, y3.1, y4.1]) ≤ N + 1 := hb
    obtain ⟨v0, r0, m0⟩ := (z_int Try.underlying3 : OpensZ enc Try.prog w N _ _ _) n _ _ (hf 0 _ rfl) (by omega)
    change RC w (Enc.enc v0) ((cs.drop 0).take (Try.prog.cellsOf 3)) at r0
    rw [cells_3] at r0
    obtain ⟨v1, r1, m1⟩ := (z_int Try.underlying3 : OpensZ enc Try.prog w N _ _ _) n _ _ (hf 1 _ rfl) (by omega)
    change RC w (Enc.enc v1) ((cs.drop 1).take (Try.prog.cellsOf 3)) at r1
    rw [cells_3] at r1
    obtain ⟨v2, r2, m2⟩ := (z_str Try.underlying9 : OpensZ enc Try.prog w N _ _ _) n _ _ (hf 2 _ rfl) (by omega)
    change RC w (Enc.enc v2) ((cs.drop 2).take (Try.prog.cellsOf 9)) at r2
    rw [cells_9] at r2
    obtain ⟨v3, r3, m3⟩ := (z_slice Try.underlying39 (by kernel_rfl) z_lvl' : OpensZ enc Try.prog w N _ _ _) n _ _ (hf 3 _ rfl) (by omega)
    change RC w (Enc.enc v3) ((cs.drop 3).take (Try.prog.cellsOf 39)) at r3
    rw [cells_39] at r3
    obtain ⟨v4, r4, m4⟩ := (z_slice Try.underlying40 (by kernel_rfl) hk : OpensZ enc Try.prog w N _ _ _) n _ _ (hf 4 _ rfl) (by omega)
    change RC w (Enc.enc v4) ((cs.drop 4).take (Try.prog.cellsOf 40)) at r4
    rw [cells_40] at r4
    have hcs : cs.take 5 = cs := List.take_of_length_le (by rw [hl]; exact Nat.le_of_eq cells_42)
    have hR := ((((((((((RC.nil).snoc (k := 1) r0 rfl)).snoc (k := 1) r1 rfl)).snoc (k := 1) r2 rfl)).snoc (k := 1) r3 rfl)).snoc (k := 1) r4 rfl)
    refine ⟨Tm.mk v0 v1 v2 v3 v4, by rw [← hcs]; exact hR, Nat.le_trans ?_ hb'⟩
    rw [Tm.size_eq]
    simp only [Tm.name, Tm.kids]
    dsimp only at m0 m1 m2 m3 m4 ⊢
    omega
theorem z_tm' : OpensZ enc Try.prog w N 42 Tm Tm.size := z_pos (fun _ h => z_tm h) N
theorem z_ctr : OpensZ enc Try.prog w (N + 1) 84 Ctr csz := by
  intro fuel cs x h hb
  obtain ⟨xs, n, _, rfl, hl, hlen, hf⟩ := DataW.trod_struct Try.underlying84 h
  match xs, hlen with
  | [y0, y1], _ =>
    have hb' : Rows.uptoBulk y0.1 + Rows.uptoBulk y1.1 + 1 ≤ Rows.uptoBulk (DataW.agg (H := H) [y0.1, y1.1]) := by simp only [Rows.uptoBulk, Rows.uptoBulkAll]; omega
    have hb2 : Rows.uptoBulk (DataW.agg (H := H) [y0.1, y1.1]) ≤ N + 1 := hb
    obtain ⟨v0, r0, m0⟩ := (z_str Try.underlying9 : OpensZ enc Try.prog w N _ _ _) n _ _ (hf 0 _ rfl) (by omega)
    change RC w (Enc.enc v0) ((cs.drop 0).take (Try.prog.cellsOf 9)) at r0
    rw [cells_9] at r0
    obtain ⟨v1, r1, m1⟩ := (z_tm' : OpensZ enc Try.prog w N _ _ _) n _ _ (hf 1 _ rfl) (by omega)
    change RC w (Enc.enc v1) ((cs.drop 1).take (Try.prog.cellsOf 42)) at r1
    rw [cells_42] at r1
    have hcs : cs.take 6 = cs := List.take_of_length_le (by rw [hl]; exact Nat.le_of_eq cells_84)
    have hR := ((((RC.nil).snoc (k := 1) r0 rfl)).snoc (k := 5) r1 rfl)
    refine ⟨⟨v0, v1⟩, by rw [← hcs]; exact hR, Nat.le_trans ?_ hb'⟩
    show csz ⟨v0, v1⟩ ≤ _
    unfold csz
    dsimp only at m0 m1 ⊢
    omega
theorem z_ctr' : OpensZ enc Try.prog w N 84 Ctr csz := z_pos (fun _ _ => z_ctr) N
theorem z_rcr : OpensZ enc Try.prog w (N + 1) 45 Rcr (fun r => r.ty.size + (r.rules.map Tm.size).sum) := by
  intro fuel cs x h hb
  obtain ⟨xs, n, _, rfl, hl, hlen, hf⟩ := DataW.trod_struct Try.underlying45 h
  match xs, hlen with
  | [y0, y1, y2], _ =>
    have hb' : Rows.uptoBulk y0.1 + Rows.uptoBulk y1.1 + Rows.uptoBulk y2.1 + 1 ≤ Rows.uptoBulk (DataW.agg (H := H) [y0.1, y1.1, y2.1]) := by simp only [Rows.uptoBulk, Rows.uptoBulkAll]; omega
    have hb2 : Rows.uptoBulk (DataW.agg (H := H) [y0.1, y1.1, y2.1]) ≤ N + 1 := hb
    obtain ⟨v0, r0, m0⟩ := (z_int Try.underlying3 : OpensZ enc Try.prog w N _ _ _) n _ _ (hf 0 _ rfl) (by omega)
    change RC w (Enc.enc v0) ((cs.drop 0).take (Try.prog.cellsOf 3)) at r0
    rw [cells_3] at r0
    obtain ⟨v1, r1, m1⟩ := (z_tm' : OpensZ enc Try.prog w N _ _ _) n _ _ (hf 1 _ rfl) (by omega)
    change RC w (Enc.enc v1) ((cs.drop 1).take (Try.prog.cellsOf 42)) at r1
    rw [cells_42] at r1
    obtain ⟨v2, r2, m2⟩ := (z_slice Try.underlying40 (by kernel_rfl) z_tm' : OpensZ enc Try.prog w N _ _ _) n _ _ (hf 2 _ rfl) (by omega)
    change RC w (Enc.enc v2) ((cs.drop 6).take (Try.prog.cellsOf 40)) at r2
    rw [cells_40] at r2
    have hcs : cs.take 7 = cs := List.take_of_length_le (by rw [hl]; exact Nat.le_of_eq cells_45)
    have hR := ((((((RC.nil).snoc (k := 1) r0 rfl)).snoc (k := 5) r1 rfl)).snoc (k := 1) r2 rfl)
    refine ⟨⟨v0, v1, v2⟩, by rw [← hcs]; exact hR, Nat.le_trans ?_ hb'⟩
    dsimp only at m0 m1 m2 ⊢
    omega
theorem z_rcr' : OpensZ enc Try.prog w N 45 Rcr (fun r => r.ty.size + (r.rules.map Tm.size).sum) := z_pos (fun _ _ => z_rcr) N
theorem z_tr (hk : OpensZ enc Try.prog w N 115 Br bsz) : OpensZ enc Try.prog w (N + 1) 87 Tr Tr.size := by
  intro fuel cs x h hb
  obtain ⟨xs, n, _, rfl, hl, hlen, hf⟩ := DataW.trod_struct Try.underlying87 h
  match xs, hlen with
  | [y0, y1, y2, y3], _ =>
    have hb' : Rows.uptoBulk y0.1 + Rows.uptoBulk y1.1 + Rows.uptoBulk y2.1 + Rows.uptoBulk y3.1 + 1 ≤ Rows.uptoBulk (DataW.agg (H := H) [y0.1, y1.1, y2.1, y3.1]) := by simp only [Rows.uptoBulk, Rows.uptoBulkAll]; omega
    have hb2 : Rows.uptoBulk (DataW.agg (H := H) [y0.1, y1.1, y2.1, y3.1]) ≤ N + 1 := hb
    obtain ⟨v0, r0, m0⟩ := (z_int Try.underlying3 : OpensZ enc Try.prog w N _ _ _) n _ _ (hf 0 _ rfl) (by omega)
    change RC w (Enc.enc v0) ((cs.drop 0).take (Try.prog.cellsOf 3)) at r0
    rw [cells_3] at r0
    obtain ⟨v1, r1, m1⟩ := (z_tm' : OpensZ enc Try.prog w N _ _ _) n _ _ (hf 1 _ rfl) (by omega)
    change RC w (Enc.enc v1) ((cs.drop 1).take (Try.prog.cellsOf 42)) at r1
    rw [cells_42] at r1
    obtain ⟨v2, r2, m2⟩ := (z_int Try.underlying3 : OpensZ enc Try.prog w N _ _ _) n _ _ (hf 2 _ rfl) (by omega)
    change RC w (Enc.enc v2) ((cs.drop 6).take (Try.prog.cellsOf 3)) at r2
    rw [cells_3] at r2
    obtain ⟨v3, r3, m3⟩ := (z_slice Try.underlying85 (by kernel_rfl) hk : OpensZ enc Try.prog w N _ _ _) n _ _ (hf 3 _ rfl) (by omega)
    change RC w (Enc.enc v3) ((cs.drop 7).take (Try.prog.cellsOf 85)) at r3
    rw [cells_85] at r3
    have hcs : cs.take 8 = cs := List.take_of_length_le (by rw [hl]; exact Nat.le_of_eq cells_87)
    have hR := ((((((((RC.nil).snoc (k := 1) r0 rfl)).snoc (k := 5) r1 rfl)).snoc (k := 1) r2 rfl)).snoc (k := 1) r3 rfl)
    refine ⟨Tr.mk v0 v1 v2 v3, by rw [← hcs]; exact hR, Nat.le_trans ?_ hb'⟩
    rw [Tr.size_eq]
    simp only [Tr.body, Tr.branches]
    dsimp only at m0 m1 m2 m3 ⊢
    omega
theorem z_br (hk : OpensZ enc Try.prog w N 87 Tr Tr.size) : OpensZ enc Try.prog w (N + 1) 115 Br bsz := by
  intro fuel cs x h hb
  obtain ⟨xs, n, _, rfl, hl, hlen, hf⟩ := DataW.trod_struct Try.underlying115 h
  match xs, hlen with
  | [y0, y1, y2], _ =>
    have hb' : Rows.uptoBulk y0.1 + Rows.uptoBulk y1.1 + Rows.uptoBulk y2.1 + 1 ≤ Rows.uptoBulk (DataW.agg (H := H) [y0.1, y1.1, y2.1]) := by simp only [Rows.uptoBulk, Rows.uptoBulkAll]; omega
    have hb2 : Rows.uptoBulk (DataW.agg (H := H) [y0.1, y1.1, y2.1]) ≤ N + 1 := hb
    obtain ⟨v0, r0, m0⟩ := (z_str Try.underlying9 : OpensZ enc Try.prog w N _ _ _) n _ _ (hf 0 _ rfl) (by omega)
    change RC w (Enc.enc v0) ((cs.drop 0).take (Try.prog.cellsOf 9)) at r0
    rw [cells_9] at r0
    obtain ⟨v1, r1, m1⟩ := (z_bool Try.underlying4 : OpensZ enc Try.prog w N _ _ _) n _ _ (hf 1 _ rfl) (by omega)
    change RC w (Enc.enc v1) ((cs.drop 1).take (Try.prog.cellsOf 4)) at r1
    rw [cells_4] at r1
    obtain ⟨v2, r2, m2⟩ := hk n _ _ (hf 2 _ rfl) (by omega)
    change RC w (Enc.enc v2) ((cs.drop 2).take (Try.prog.cellsOf 87)) at r2
    rw [cells_87] at r2
    have hcs : cs.take 10 = cs := List.take_of_length_le (by rw [hl]; exact Nat.le_of_eq cells_115)
    have hR := ((((((RC.nil).snoc (k := 1) r0 rfl)).snoc (k := 1) r1 rfl)).snoc (k := 8) r2 rfl)
    refine ⟨⟨v0, v1, v2⟩, by rw [← hcs]; exact hR, Nat.le_trans ?_ hb'⟩
    show bsz ⟨v0, v1, v2⟩ ≤ _
    unfold bsz
    dsimp only at m0 m1 m2 ⊢
    omega
theorem z_trbr : ∀ N, OpensZ enc Try.prog w N 87 Tr Tr.size ∧ OpensZ enc Try.prog w N 115 Br bsz
  | 0 => ⟨fun fuel cs x _ hb => by have := bulk_pos x.1; omega, fun fuel cs x _ hb => by have := bulk_pos x.1; omega⟩
  | N + 1 => ⟨z_tr (z_trbr N).2, z_br (z_trbr N).1⟩
theorem z_fn : OpensZ enc Try.prog w (N + 1) 89 Fn fsz := by
  intro fuel cs x h hb
  obtain ⟨xs, n, _, rfl, hl, hlen, hf⟩ := DataW.trod_struct Try.underlying89 h
  match xs, hlen with
  | [y0, y1, y2, y3], _ =>
    have hb' : Rows.uptoBulk y0.1 + Rows.uptoBulk y1.1 + Rows.uptoBulk y2.1 + Rows.uptoBulk y3.1 + 1 ≤ Rows.uptoBulk (DataW.agg (H := H) [y0.1, y1.1, y2.1, y3.1]) := by simp only [Rows.uptoBulk, Rows.uptoBulkAll]; omega
    have hb2 : Rows.uptoBulk (DataW.agg (H := H) [y0.1, y1.1, y2.1, y3.1]) ≤ N + 1 := hb
    obtain ⟨v0, r0, m0⟩ := (z_str Try.underlying9 : OpensZ enc Try.prog w N _ _ _) n _ _ (hf 0 _ rfl) (by omega)
    change RC w (Enc.enc v0) ((cs.drop 0).take (Try.prog.cellsOf 9)) at r0
    rw [cells_9] at r0
    obtain ⟨v1, r1, m1⟩ := (z_tm' : OpensZ enc Try.prog w N _ _ _) n _ _ (hf 1 _ rfl) (by omega)
    change RC w (Enc.enc v1) ((cs.drop 1).take (Try.prog.cellsOf 42)) at r1
    rw [cells_42] at r1
    obtain ⟨v2, r2, m2⟩ := (z_int Try.underlying3 : OpensZ enc Try.prog w N _ _ _) n _ _ (hf 2 _ rfl) (by omega)
    change RC w (Enc.enc v2) ((cs.drop 6).take (Try.prog.cellsOf 3)) at r2
    rw [cells_3] at r2
    obtain ⟨v3, r3, m3⟩ := (z_trbr N).1 n _ _ (hf 3 _ rfl) (by omega)
    change RC w (Enc.enc v3) ((cs.drop 7).take (Try.prog.cellsOf 87)) at r3
    rw [cells_87] at r3
    have hcs : cs.take 15 = cs := List.take_of_length_le (by rw [hl]; exact Nat.le_of_eq cells_89)
    have hR := ((((((((RC.nil).snoc (k := 1) r0 rfl)).snoc (k := 5) r1 rfl)).snoc (k := 1) r2 rfl)).snoc (k := 8) r3 rfl)
    refine ⟨⟨v0, v1, v2, v3⟩, by rw [← hcs]; exact hR, Nat.le_trans ?_ hb'⟩
    show fsz ⟨v0, v1, v2, v3⟩ ≤ _
    unfold fsz
    dsimp only at m0 m1 m2 m3 ⊢
    omega
theorem z_fn' : OpensZ enc Try.prog w N 89 Fn fsz := z_pos (fun _ _ => z_fn) N
theorem z_dcl : OpensZ enc Try.prog w (N + 1) 48 Dcl Dcl.size := by
  intro fuel cs x h hb
  obtain ⟨xs, n, _, rfl, hl, hlen, hf⟩ := DataW.trod_struct Try.underlying48 h
  match xs, hlen with
  | [y0, y1, y2, y3, y4, y5, y6, y7, y8], _ =>
    have hb' : Rows.uptoBulk y0.1 + Rows.uptoBulk y1.1 + Rows.uptoBulk y2.1 + Rows.uptoBulk y3.1 + Rows.uptoBulk y4.1 + Rows.uptoBulk y5.1 + Rows.uptoBulk y6.1 + Rows.uptoBulk y7.1 + Rows.uptoBulk y8.1 + 1 ≤ Rows.uptoBulk (DataW.agg (H := H) [y0.1, y1.1, y2.1, y3.1, y4.1, y5.1, y6.1, y7.1, y8.1]) := by simp only [Rows.uptoBulk, Rows.uptoBulkAll]; omega
    have hb2 : Rows.uptoBulk (DataW.agg (H := H) [y0.1, y1.1, y2.1, y3.1, y4.1, y5.1, y6.1, y7.1, y8.1]) ≤ N + 1 := hb
    obtain ⟨v0, r0, m0⟩ := (z_int Try.underlying3 : OpensZ enc Try.prog w N _ _ _) n _ _ (hf 0 _ rfl) (by omega)
    change RC w (Enc.enc v0) ((cs.drop 0).take (Try.prog.cellsOf 3)) at r0
    rw [cells_3] at r0
    obtain ⟨v1, r1, m1⟩ := (z_str Try.underlying9 : OpensZ enc Try.prog w N _ _ _) n _ _ (hf 1 _ rfl) (by omega)
    change RC w (Enc.enc v1) ((cs.drop 1).take (Try.prog.cellsOf 9)) at r1
    rw [cells_9] at r1
    obtain ⟨v2, r2, m2⟩ := (z_int Try.underlying3 : OpensZ enc Try.prog w N _ _ _) n _ _ (hf 2 _ rfl) (by omega)
    change RC w (Enc.enc v2) ((cs.drop 2).take (Try.prog.cellsOf 3)) at r2
    rw [cells_3] at r2
    obtain ⟨v3, r3, m3⟩ := (z_tm' : OpensZ enc Try.prog w N _ _ _) n _ _ (hf 3 _ rfl) (by omega)
    change RC w (Enc.enc v3) ((cs.drop 3).take (Try.prog.cellsOf 42)) at r3
    rw [cells_42] at r3
    obtain ⟨v4, r4, m4⟩ := (z_tm' : OpensZ enc Try.prog w N _ _ _) n _ _ (hf 4 _ rfl) (by omega)
    change RC w (Enc.enc v4) ((cs.drop 8).take (Try.prog.cellsOf 42)) at r4
    rw [cells_42] at r4
    obtain ⟨v5, r5, m5⟩ := (z_int Try.underlying3 : OpensZ enc Try.prog w N _ _ _) n _ _ (hf 5 _ rfl) (by omega)
    change RC w (Enc.enc v5) ((cs.drop 13).take (Try.prog.cellsOf 3)) at r5
    rw [cells_3] at r5
    obtain ⟨v6, r6, m6⟩ := (z_slice Try.underlying43 (by kernel_rfl) z_ctr' : OpensZ enc Try.prog w N _ _ _) n _ _ (hf 6 _ rfl) (by omega)
    change RC w (Enc.enc v6) ((cs.drop 14).take (Try.prog.cellsOf 43)) at r6
    rw [cells_43] at r6
    obtain ⟨v7, r7, m7⟩ := (z_rcr' : OpensZ enc Try.prog w N _ _ _) n _ _ (hf 7 _ rfl) (by omega)
    change RC w (Enc.enc v7) ((cs.drop 15).take (Try.prog.cellsOf 45)) at r7
    rw [cells_45] at r7
    obtain ⟨v8, r8, m8⟩ := (z_slice Try.underlying46 (by kernel_rfl) z_fn' : OpensZ enc Try.prog w N _ _ _) n _ _ (hf 8 _ rfl) (by omega)
    change RC w (Enc.enc v8) ((cs.drop 22).take (Try.prog.cellsOf 46)) at r8
    rw [cells_46] at r8
    have hcs : cs.take 23 = cs := List.take_of_length_le (by rw [hl]; exact Nat.le_of_eq cells_48)
    have hR := ((((((((((((((((((RC.nil).snoc (k := 1) r0 rfl)).snoc (k := 1) r1 rfl)).snoc (k := 1) r2 rfl)).snoc (k := 5) r3 rfl)).snoc (k := 5) r4 rfl)).snoc (k := 1) r5 rfl)).snoc (k := 1) r6 rfl)).snoc (k := 7) r7 rfl)).snoc (k := 1) r8 rfl)
    refine ⟨⟨v0, v1, v2, v3, v4, v5, v6, v7, v8⟩, by rw [← hcs]; exact hR, Nat.le_trans ?_ hb'⟩
    show Dcl.size ⟨v0, v1, v2, v3, v4, v5, v6, v7, v8⟩ ≤ _
    unfold Dcl.size
    dsimp only at m0 m1 m2 m3 m4 m5 m6 m7 m8 ⊢
    omega
theorem z_dcl' : OpensZ enc Try.prog w N 48 Dcl Dcl.size := z_pos (fun _ _ => z_dcl) N
theorem z_env : OpensZ enc Try.prog w N 22 (List Dcl) (fun l => 1 + envSz l) := z_slice Try.underlying22 (by kernel_rfl) z_dcl'
end
end Go.Proofs.Ytijcchddnnnmdaa
namespace Go.Proofs.Ytijcchddnnnmdaa
open Go.ChangeShapes Go.WideShapes Go.ChangeAt Go.RowKit Go.WideElems
set_option linter.unusedSimpArgs false
set_option linter.unusedVariables false
set_option linter.unusedSectionVars false
theorem own : ownKnob Try.prog.godebug = none := by kernel_rfl
theorem laidOut : laidOutB Try.prog = true := by kernel_rfl
set_option maxRecDepth 100000 in
theorem slice_readsZ {H : Type} {enc : TypeId × Value → H} {α : Type} [Enc α] [EncLen α] {μ : List α → Nat} {W : World} {base : Nat} {t e : TypeId} {v : Value} {d : DataW H} {p : List MemPlace} (ht : Try.prog.underlying t = some (.slice e)) (ho : ∀ N, OpensZ enc Try.prog W N t (List α) μ)
    (hval : Value.okWide Try.prog W .any base t v) (h : DataW.Trod enc Try.prog W 0 (fun _ => true) true t v d p) : ∃ l : List α, Reads (allS W) W (.sl (Enc.sz α) (Enc.encL l)) v ∧ μ l ≤ Rows.uptoBulk d := by
  obtain ⟨fuel, hf⟩ := h
  obtain ⟨l, hl, hμ⟩ := ho _ _ _ _ hf (Nat.le_refl _)
  refine ⟨l, ?_, hμ⟩
  obtain ⟨u, h2, h3⟩ := hl.2 0 _ rfl
  have h4 : v.cells = #[v] := by
    have h5 := hl.1
    cases v with
    | agg cs =>
      exfalso
      obtain ⟨s, n, c, h7⟩ := okWide_slice ht hval
      cases h7
    | _ => rfl
  rw [h4] at h2
  cases h2
  exact h3
end Go.Proofs.Ytijcchddnnnmdaa
namespace Go.Proofs.Ytijcchddnnnmdaa
open Go.ChangeShapes Go.WideShapes Go.ChangeAt Go.RowKit Go.WideElems
set_option linter.unusedSimpArgs false
set_option linter.unusedVariables false
set_option linter.unusedSectionVars false
theorem law7 {W : World} (a0 : List Dcl) (hs : envSz a0 ≤ 100000000) {v0 : Value} (hv0 : Reads (allS W) W (.sl 23 (Enc.encL a0)) v0) : Calls Try.prog 7 #[v0] W fun e W' => e = .returned (.bool true) ∧ Below W.heap.size W W' := by
  have hF := m7_ok a0 true (m7_true a0 hs)
  refine Calls.mono (hF.2 (allS W) W #[v0] (fun b o h => h) ⟨rfl, fun i y hy => ?_⟩) ?_
  · match i, hy with
    | 0, hy => cases hy; exact ⟨_, rfl, hv0⟩
  · rintro e W' ⟨u, S', rfl, hx, -, -, hu⟩
    have e1 : u = .bool true := by cases hu; rfl
    rw [e1]
    exact ⟨rfl, hx.os, hx.tape, hx.output, hx.size, fun k hk => hx.block k hk (fun h => h)⟩
set_option maxRecDepth 100000 in
theorem contract (H : Type) (enc : TypeId × Value → H) (W : World) (base : Nat) (args : Array Value) (ds gs : List (DataW H)) (before : List MemPlace) (hk : Rows.uptoSmall H (ds ++ gs) = true)
    (hval0 : ∀ (j : Nat) t v, Try.f7.params[j]? = some t → args[j]? = some v → Value.okWide Try.prog W .any base t v)
    (hW : DataW.Whole enc Try.prog Try.f7.params.toList Rows.dependSortsSpec.vars false W args.toList ds gs before) :
    Calls Try.prog 7 args W fun e W' => ∃ v, e = .returned v ∧ Rows.dependSortsSpec.post enc Try.prog Try.f7 false true false false W args v W' := by
  have hval : ∀ (j : Nat) t v, Try.f7.params[j]? = some t → args[j]? = some v → Value.okWide Try.prog W .any base t v := hval0
  have hW' := hW
  obtain ⟨p, q, hA0, hV, rfl, hfz, hnd⟩ := hW
  have hA : DataW.TrodAll enc Try.prog W 0 (fun _ => true) true Try.f7.params.toList args.toList ds p := hA0
  rw [Try.params7] at hA hval
  obtain ⟨v0, d0, rfl, rfl, h0⟩ := trodAll_one hA
  obtain ⟨rfl, rfl⟩ := trodVars_none hV
  have h0k := h0
  obtain ⟨a0, hv0, hz⟩ := slice_readsZ Try.underlying22 (fun N => z_env) (hval 0 22 v0 rfl rfl) h0
  have hbk : Rows.uptoBulkAll ([d0] ++ ([] : List (DataW H))) ≤ 1048576 := of_decide_eq_true hk
  simp only [List.append_nil, Rows.uptoBulkAll] at hbk
  clear hA0 hval0
  simp only [List.append_nil] at hW'
  have hlt : ∀ x ∈ p, x.block < W.heap.size := fun x hx => by simpa using hW'.lt x hx
  refine (law7 a0 (by omega) hv0).mono fun e W' ⟨he, hb⟩ => ?_
  subst he
  have hargs : ∀ sp : Nat → Bool, (∀ x ∈ p, sp x.block = true) → DataW.TrodAll enc Try.prog W' 0 sp true [22] [v0] [d0] p := fun sp hsp =>
    trodAll_mk1 (WideElems.Trod_stays laidOut (by kernel_rfl) (of_decide_eq_true (by kernel_rfl)) h0k (fun x hx => hb.same (hlt x hx)) (fun x hx => hsp x hx))
  exact ⟨_, rfl, _, _, _, [], p, [], hW', trodAll_mk1 (shut_bool Try.underlying4 true), hargs _ (fun x hx => by simpa using hlt x hx), rfl, hb.frame _, fun h => by cases h⟩
set_option maxRecDepth 100000 in
theorem lifted (os : Os) (started : os.Started) (H : Type) (enc : TypeId × Value → H) (F : Stop.Interp) :
    ReturnsInHanded {} Try.checked os 7 .any ((Rows.OpenSpec.upto Rows.dependSortsSpec).pre6 enc Try.prog Try.f7 Rows.dependSortsUptoRow.domain false) (((Rows.OpenSpec.upto Rows.dependSortsSpec).at F).post enc Try.prog Try.f7 false true false false) := by
  refine returnsInHanded_of_cond (C := Try.checked) (s := Rows.OpenSpec.upto Rows.dependSortsSpec) (k := Rows.uptoSmall) rfl own started (by kernel_rfl) Try.func7
    (OpenSpec.witness (enc := enc) (C := Try.checked) (s := Rows.OpenSpec.upto Rows.dependSortsSpec) (k := Rows.uptoSmall) rfl false ⟨#[], #[.slice none 0 0], []⟩ 8 (by kernel_rfl) (by kernel_rfl) (by kernel_rfl)
      (x := ([.nil], [], [])) (by kernel_rfl) rfl (by kernel_rfl)) ?_
  intro W base args ds gs before hval hW _ hk _
  exact contract H enc W base args ds gs before hk hval hW
theorem over : Rows.dependSortsUptoRow.holds Try.pinned (Rows.OpenSpec.upto Rows.dependSortsSpec) :=
  OpenClaim.holds_of_cond 7 Try.f7 rfl rfl rfl rfl rfl rfl rfl ⟨rfl, rfl, rfl, rfl, rfl⟩ rfl rfl rfl rfl rfl (by kernel_rfl) Try.func7 (by kernel_rfl)
    (of_decide_eq_true (by kernel_rfl)) (by unfold Func.isWrapper; first | (rw [if_pos (by decide +kernel)]; kernel_rfl) | (rw [if_neg (by decide +kernel)]; exact ⟨rfl, rfl⟩))
    (fun os started H enc _ F => lifted os started H enc F)
theorem dependSortsUpto : Rows.DependSortsUptoSaid := over
#print axioms dependSortsUpto
end Go.Proofs.Ytijcchddnnnmdaa
