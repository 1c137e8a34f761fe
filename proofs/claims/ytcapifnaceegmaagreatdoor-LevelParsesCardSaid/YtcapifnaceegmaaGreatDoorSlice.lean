/- Slices that are built and appended to. -/
import Derived.Test.YtcapifnaceegmaaGreatDoorBuild
namespace Go.Proofs.YtcapifnaceegmaaGreatDoor
open Go.RowKit
set_option linter.unusedSimpArgs false
set_option linter.unusedVariables false
set_option linter.unusedSectionVars false

theorem flat_get {α : Type} {sz : Nat} : ∀ (es : List (List α)), (∀ e ∈ es, e.length = sz) → ∀ (i j : Nat) (e : List α), es[i]? = some e → j < sz → es.flatten[i * sz + j]? = e[j]?
  | [], _, i, j, e, h, _ => by simp at h
  | e0 :: es, hl, 0, j, e, h, hj => by
    simp at h; subst h
    rw [List.flatten_cons, Nat.zero_mul, Nat.zero_add, List.getElem?_append_left (by rw [hl e0 (by simp)]; exact hj)]
  | e0 :: es, hl, i + 1, j, e, h, hj => by
    have h0 := hl e0 (by simp)
    rw [List.flatten_cons, List.getElem?_append_right (by rw [h0, Nat.succ_mul]; omega), h0]
    rw [show (i + 1) * sz + j - sz = i * sz + j by rw [Nat.succ_mul]; omega]
    exact flat_get es (fun e he => hl e (by simp [he])) i j e (by simpa using h) hj

theorem flat_len {α : Type} {sz : Nat} : ∀ (es : List (List α)), (∀ e ∈ es, e.length = sz) → es.flatten.length = es.length * sz
  | [], _ => by simp
  | e :: es, hl => by rw [List.flatten_cons, List.length_append, hl e (by simp), flat_len es (fun e he => hl e (by simp [he])), List.length_cons, Nat.succ_mul, Nat.add_comm]

/-- The values of a slice, one after the other. -/
theorem Reads.row {S : Nat → Nat → Prop} {w : World} {sz : Nat} {es : List (List C)} {v : Value} (h : Reads S w (.sl sz es) v) :
    (∀ e ∈ es, e.length = sz) ∧ ∃ (a : Option Addr) (cap b off : Nat) (us : List Value), v = .slice a es.length cap ∧ es.length ≤ cap ∧ (es ≠ [] → a = some ⟨b, off, none⟩) ∧ us.length = es.length * sz ∧
      ∀ (k : Nat) (c : C), es.flatten[k]? = some c → ∃ u, us[k]? = some u ∧ w.cell? ⟨b, off + k, none⟩ = some u ∧ S b (off + k) ∧ Reads S w c u := by
  cases h with
  | sl _ _ a cap b off f hcap ha hl hc hs hr =>
    have hall : ∀ e ∈ es, e.length = sz := fun e he => by obtain ⟨i, hi⟩ := List.getElem?_of_mem he; exact hl i e hi
    refine ⟨hall, a, cap, b, off, (List.range (es.length * sz)).map (fun k => f (k / sz) (k % sz)), rfl, hcap, ha, by simp, fun k c hk => ?_⟩
    have hlt : k < es.length * sz := by have := (List.getElem?_eq_some_iff.1 hk).1; rwa [flat_len es hall] at this
    have hsz : 0 < sz := by rcases Nat.eq_zero_or_pos sz with h0 | h0; (· subst h0; simp at hlt); exact h0
    have hi : k / sz < es.length := Nat.div_lt_of_lt_mul (by rw [Nat.mul_comm]; exact hlt)
    have he := List.getElem?_eq_getElem hi
    have hj : k % sz < sz := Nat.mod_lt _ hsz
    have hkk : k / sz * sz + k % sz = k := by rw [Nat.mul_comm]; exact Nat.div_add_mod k sz
    have hc' := flat_get es hall (k / sz) (k % sz) _ he hj
    rw [hkk, hk] at hc'
    refine ⟨f (k / sz) (k % sz), by simp [hlt], ?_, ?_, hr _ _ _ c he hc'.symm⟩
    · have := hc _ _ _ c he hc'.symm
      rwa [Nat.add_assoc, hkk] at this
    · have := hs _ _ _ c he hc'.symm
      rwa [Nat.add_assoc, hkk] at this

/-- A row of cells that read as data is a slice that reads as data. -/
theorem Reads.of_row {S : Nat → Nat → Prop} {w : World} {sz b off cap : Nat} {es : List (List C)} {us : Nat → Value} (hl : ∀ e ∈ es, e.length = sz) (hcap : es.length ≤ cap)
    (h : ∀ (k : Nat) (c : C), es.flatten[k]? = some c → w.cell? ⟨b, off + k, none⟩ = some (us k) ∧ S b (off + k) ∧ Reads S w c (us k)) : Reads S w (.sl sz es) (.slice (some ⟨b, off, none⟩) es.length cap) := by
  have key : ∀ (i : Nat) (e : List C) (j : Nat) (c : C), es[i]? = some e → e[j]? = some c → es.flatten[i * sz + j]? = some c := fun i e j c hi hj => by
    have hj' : j < sz := by have := (List.getElem?_eq_some_iff.1 hj).1; rwa [hl e (List.mem_of_getElem? hi)] at this
    rw [flat_get es hl i j e hi hj']; exact hj
  exact .sl sz es _ cap b off (fun i j => us (i * sz + j)) hcap (fun _ => rfl) (fun i e hi => hl e (List.mem_of_getElem? hi))
    (fun i e j c hi hj => by rw [Nat.add_assoc]; exact (h _ c (key i e j c hi hj)).1)
    (fun i e j c hi hj => by rw [Nat.add_assoc]; exact (h _ c (key i e j c hi hj)).2.1)
    (fun i e j c hi hj => (h _ c (key i e j c hi hj)).2.2)

/-- The slice named i is now v, n elements long; its cells are read and never written again. -/
def Vu.tok (V : Vu) (i n : Nat) (v : Value) (g m : Nat) : Vu :=
  { nx := max V.nx (i + 1), ι := V.ι, κ := fun j k => if j = i ∧ k = n then v else V.κ j k, cu := fun j => if j = i then n else V.cu j, S := fun b o => V.S b o ∨ (b = g ∧ o < m) }

section
variable {E : Env} {V : Vu} {hp : List (Nat × HB)} {tk : List (Nat × Option Tok)} {w w' : World}

theorem tok_le {i n g m : Nat} {v : Value} (hi : i = V.nx ∨ (i < V.nx ∧ V.cu i < n)) (hcell : ∀ b o, V.S b o → w'.cell? ⟨b, o, none⟩ = w.cell? ⟨b, o, none⟩) : V.Le (V.tok i n v g m) w w' :=
  ⟨Nat.le_max_left _ _, fun _ _ => rfl, fun j hj => by
    show V.cu j ≤ if j = i then n else V.cu j
    split
    · rename_i e; subst e; rcases hi with h | h <;> omega
    · exact Nat.le_refl _, fun j hj k hk => by
    show (if j = i ∧ k = n then v else V.κ j k) = _
    rw [if_neg]
    rintro ⟨rfl, rfl⟩
    rcases hi with h | h <;> omega, fun _ _ h => .inl h, hcell⟩

theorem tok_κ {i n g m : Nat} {v : Value} : (V.tok i n v g m).κ i n = v := by show (if i = i ∧ n = n then v else _) = v; rw [if_pos ⟨rfl, rfl⟩]
theorem tok_cu {i n g m : Nat} {v : Value} : (V.tok i n v g m).cu i = n := by show (if i = i then n else _) = n; rw [if_pos rfl]
theorem tok_κ' {i n g m j k : Nat} {v : Value} (h : j ≠ i) : (V.tok i n v g m).κ j k = V.κ j k := by show (if j = i ∧ k = n then v else _) = _; rw [if_neg (fun h' => h h'.1)]

/-- A new row, under the name i. -/
theorem HRel.tokNew (h : HRel E V hp tk w) {i n g e sz cap : Nat} {cur : Array Value} (hi : i = V.nx ∨ (i < V.nx ∧ V.cu i < n)) (hx : ExtF w w') (hg : w.heap.size ≤ g) (hc : w'.heap[g]? = some (.cells cur e (0, 0))) (hcs : cur.size = cap * sz) (hn : n ≤ cap) (hm : cap ≤ maxLen) :
    HRel E (V.tok i n (.slice (some ⟨g, 0, none⟩) n cap) g (n * sz)) hp ((i, some ⟨e, sz, n⟩) :: tk) w' ∧ V.Le (V.tok i n (.slice (some ⟨g, 0, none⟩) n cap) g (n * sz)) w w' := by
  have hle := tok_le (V := V) (g := g) (m := n * sz) (v := .slice (some ⟨g, 0, none⟩) n cap) (w := w) (w' := w') hi (fun b o hs => hx.cell (h.sz b o hs) (fun h => h))
  refine ⟨⟨?_, h.le0.trans hle, ?_, ?_, ?_, ?_, ?_, ?_, ?_⟩, hle⟩
  · exact h.ext.trans ⟨hx.os, hx.tape, hx.output, hx.size, fun k hk _ => hx.block k hk (fun h => h)⟩
  · rintro b o (hs | ⟨rfl, -⟩)
    · exact Nat.lt_of_lt_of_le (h.sz b o hs) hx.size
    · exact heap_lt hc
  · rintro b o (hs | ⟨rfl, -⟩)
    · exact h.sub b o hs
    · exact .inr (.inl (Nat.le_trans h.ext.size hg))
  · intro j B hj
    obtain ⟨h1, o, ho, hB⟩ := h.own j B hj
    exact ⟨Nat.lt_of_lt_of_le h1 hle.nx, o, (hx.block _ (heap_lt ho) (fun h => h)).trans ho, hB.mono hle⟩
  · exact h.inj
  · intro j B hj
    refine ⟨(h.new j B hj).1, fun o hs => ?_⟩
    rcases hs with hs | ⟨e1, -⟩
    · exact (h.new j B hj).2 o hs
    · obtain ⟨-, o', ho', -⟩ := h.own j B hj
      have := heap_lt ho'
      have e2 : V.ι j = g := e1
      omega
  · intro j T hj
    rw [lk_cons] at hj
    split at hj
    · rename_i e1; subst e1; cases hj
      refine ⟨Nat.lt_of_lt_of_le (Nat.lt_succ_self _) (Nat.le_max_right _ _), tok_cu.symm, cur.toList.take (n * sz), ?_, ?_⟩
      · rw [tok_κ]
        refine ⟨?_, .inr ⟨g, cap, cur, rfl, Nat.zero_le _, hc, hn, hm, hcs, rfl⟩⟩
        rw [List.length_take, Array.length_toList, hcs]
        exact Nat.min_eq_left (Nat.mul_le_mul_right _ hn)
      · intro g' hg'
        rw [tok_κ] at hg'
        obtain rfl : g = g' := Option.some.inj (show some g = some g' from hg')
        refine ⟨.inl (Nat.le_trans h.ext.size hg), fun o hs => ?_, fun k B hk => ?_⟩
        · rcases hs with hs | ⟨-, hs⟩
          · have := h.sz _ _ hs; omega
          · exact hs
        · obtain ⟨-, o', ho', -⟩ := h.own k B hk
          have := heap_lt ho'
          show V.ι k ≠ g
          omega
    · rename_i e1
      have e2 : j ≠ i := fun h => e1 h.symm
      obtain ⟨h1, hcu, xs, hown, hg2⟩ := h.tok j T hj
      rw [tok_κ' e2]
      refine ⟨Nat.lt_of_lt_of_le h1 hle.nx, by rw [hcu]; show _ = if j = i then n else V.cu j; rw [if_neg e2], xs, ?_, fun g' hg' => ?_⟩
      · exact hown.kept (row := none) ⟨hx.os, hx.tape, hx.output, hx.size, fun k hk _ => hx.block k hk (fun h => h)⟩ (by cases (V.κ j T.n).ownBlock <;> simp)
      · obtain ⟨a1, a2, a3⟩ := hg2 g' hg'
        have hgl := (hown.lt g' hg').2
        refine ⟨a1, fun o hs => ?_, a3⟩
        rcases hs with hs | ⟨e3, -⟩
        · exact a2 o hs
        · omega
  · intro j k T U g' hj hk ej ek
    rw [lk_cons] at hj hk
    have key : ∀ j T, lk tk j = some (some T) → j ≠ i → (V.κ j T.n).ownBlock = some g' → g' < w.heap.size := fun j T hj _ e => by
      obtain ⟨-, -, xs, hown, -⟩ := h.tok j T hj
      exact (hown.lt g' e).2
    split at hj <;> split at hk
    · rename_i e1 e2; exact e1.symm.trans e2
    · rename_i e1 e2; subst e1; cases hj
      rw [tok_κ] at ej; obtain rfl : g = g' := Option.some.inj (show some g = some g' from ej)
      rw [tok_κ' (fun h => e2 h.symm)] at ek
      have := key k U hk (fun h => e2 h.symm) ek; omega
    · rename_i e1 e2; subst e2; cases hk
      rw [tok_κ] at ek; obtain rfl : g = g' := Option.some.inj (show some g = some g' from ek)
      rw [tok_κ' (fun h => e1 h.symm)] at ej
      have := key j T hj (fun h => e1 h.symm) ej; omega
    · rename_i e1 e2
      rw [tok_κ' (fun h => e1 h.symm)] at ej
      rw [tok_κ' (fun h => e2 h.symm)] at ek
      exact h.tki j k T U g' hj hk ej ek

/-- The row named i has grown in its place. -/
theorem HRel.tokRoom (h : HRel E V hp tk w) {i n0 n g e sz cap : Nat} {cur cur' : Array Value} (hi : lk tk i = some (some ⟨e, sz, n0⟩)) (hv : V.κ i n0 = .slice (some ⟨g, 0, none⟩) n0 cap) (hc : w.heap[g]? = some (.cells cur e (0, 0)))
    (hlt : n0 < n) (hn : n ≤ cap) (hm : cap ≤ maxLen) (hcs : cur'.size = cap * sz) (hpre : ∀ o, o < n0 * sz → cur'[o]? = cur[o]?) :
    HRel E (V.tok i n (.slice (some ⟨g, 0, none⟩) n cap) g (n * sz)) hp ((i, some ⟨e, sz, n⟩) :: tk) (w.setRow g cur') ∧ V.Le (V.tok i n (.slice (some ⟨g, 0, none⟩) n cap) g (n * sz)) w (w.setRow g cur') := by
  obtain ⟨h1, hcu, xs, hown, hg2⟩ := h.tok i _ hi
  have hgb : (V.κ i n0).ownBlock = some g := by rw [hv]; rfl
  obtain ⟨a1, a2, a3⟩ := hg2 g hgb
  have hne : ∀ k, k ≠ g → (w.setRow g cur').heap[k]? = w.heap[k]? := fun k hk => setRow_other w g k cur' hk
  have hnew : (w.setRow g cur').heap[g]? = some (.cells cur' e (0, 0)) := setRow_heap w g cur cur' e (0, 0) hc
  have hsz : (w.setRow g cur').heap.size = w.heap.size := by simp [World.setRow]
  have hcell : ∀ b o, V.S b o → (w.setRow g cur').cell? ⟨b, o, none⟩ = w.cell? ⟨b, o, none⟩ := fun b o hs => by
    by_cases hb : b = g
    · subst hb
      rw [cell_of_own hnew, cell_of_own hc]
      exact hpre o (a2 o hs)
    · exact World.cell?_of_block (w := w) (a := ⟨b, o, none⟩) (hne b hb)
  have hle := tok_le (V := V) (g := g) (m := n * sz) (v := .slice (some ⟨g, 0, none⟩) n cap) (w := w) (w' := w.setRow g cur') (.inr ⟨h1, by rw [← hcu]; exact hlt⟩) hcell
  refine ⟨⟨?_, h.le0.trans hle, ?_, ?_, ?_, ?_, ?_, ?_, ?_⟩, hle⟩
  · refine ⟨h.ext.os, h.ext.tape, h.ext.output, by rw [hsz]; exact h.ext.size, fun k hk hM => (hne k fun e1 => ?_).trans (h.ext.block k hk hM)⟩
    rcases a1 with a1 | a1
    · omega
    · rw [← e1] at a1; exact hM a1
  · rintro b o (hs | ⟨rfl, -⟩)
    · rw [hsz]; exact h.sz b o hs
    · exact heap_lt hnew
  · rintro b o (hs | ⟨rfl, -⟩)
    · exact h.sub b o hs
    · exact .inr a1
  · intro j B hj
    obtain ⟨b1, o, ho, hB⟩ := h.own j B hj
    exact ⟨Nat.lt_of_lt_of_le b1 hle.nx, o, (hne _ (a3 j B hj)).trans ho, hB.mono hle⟩
  · exact h.inj
  · intro j B hj
    refine ⟨(h.new j B hj).1, fun o hs => ?_⟩
    rcases hs with hs | ⟨e1, -⟩
    · exact (h.new j B hj).2 o hs
    · exact a3 j B hj e1
  · intro j T hj
    rw [lk_cons] at hj
    split at hj
    · rename_i e1; subst e1; cases hj
      refine ⟨Nat.lt_of_lt_of_le (Nat.lt_succ_self _) (Nat.le_max_right _ _), tok_cu.symm, cur'.toList.take (n * sz), ?_, ?_⟩
      · rw [tok_κ]
        refine ⟨?_, .inr ⟨g, cap, cur', rfl, Nat.zero_le _, hnew, hn, hm, hcs, rfl⟩⟩
        rw [List.length_take, Array.length_toList, hcs]
        exact Nat.min_eq_left (Nat.mul_le_mul_right _ hn)
      · intro g' hg'
        rw [tok_κ] at hg'
        obtain rfl : g = g' := Option.some.inj (show some g = some g' from hg')
        refine ⟨a1, fun o hs => ?_, a3⟩
        rcases hs with hs | ⟨-, hs⟩
        · have := a2 o hs
          exact Nat.lt_of_lt_of_le this (Nat.mul_le_mul_right _ (Nat.le_of_lt hlt))
        · exact hs
    · rename_i e1
      have e2 : j ≠ i := fun h => e1 h.symm
      obtain ⟨b1, bcu, ys, bown, bg2⟩ := h.tok j T hj
      rw [tok_κ' e2]
      refine ⟨Nat.lt_of_lt_of_le b1 hle.nx, by rw [bcu]; show _ = if j = i then n else V.cu j; rw [if_neg e2], ys, ?_, fun g' hg' => ?_⟩
      · refine bown.kept (row := some g) ⟨rfl, rfl, rfl, by rw [hsz]; exact Nat.le_refl _, fun k _ hk => hne k fun e3 => hk (by rw [e3])⟩ ?_
        cases hb : (V.κ j T.n).ownBlock with
        | none => exact .inl rfl
        | some g' =>
          refine .inr fun e3 => e2 ?_
          cases e3
          exact h.tki j i T _ g hj hi hb hgb
      · obtain ⟨c1, c2, c3⟩ := bg2 g' hg'
        refine ⟨c1, fun o hs => ?_, c3⟩
        rcases hs with hs | ⟨e3, -⟩
        · exact c2 o hs
        · subst e3; exact absurd (h.tki j i T _ g' hj hi hg' hgb) e2
  · intro j k T U g' hj hk ej ek
    rw [lk_cons] at hj hk
    split at hj <;> split at hk
    · rename_i e1 e2; exact e1.symm.trans e2
    · rename_i e1 e2; subst e1; cases hj
      rw [tok_κ] at ej; obtain rfl : g = g' := Option.some.inj (show some g = some g' from ej)
      rw [tok_κ' (fun h => e2 h.symm)] at ek
      exact h.tki _ _ _ _ _ hi hk hgb ek
    · rename_i e1 e2; subst e2; cases hk
      rw [tok_κ] at ek; obtain rfl : g = g' := Option.some.inj (show some g = some g' from ek)
      rw [tok_κ' (fun h => e1 h.symm)] at ej
      exact h.tki _ _ _ _ _ hj hi ej hgb
    · rename_i e1 e2
      rw [tok_κ' (fun h => e1 h.symm)] at ej
      rw [tok_κ' (fun h => e2 h.symm)] at ek
      exact h.tki j k T U g' hj hk ej ek
end
end Go.Proofs.YtcapifnaceegmaaGreatDoor
