/- slices.Sorted(maps.Keys(m)) for maps from numbers to numbers: the call, in memory. -/
import Derived.Test.YtcapifnaceegmaaGreatDoorKyl
import Derived.Test.YtcapifnaceegmaaGreatDoorMk
namespace Go.Proofs.YtcapifnaceegmaaGreatDoor
open Go.RowKit Go.Maps Go.Shelf
set_option linter.unusedSimpArgs false
set_option linter.unusedVariables false
set_option linter.unusedSectionVars false

/-- The entries of a block are these. -/
def EntsOf (ents : Array MapEntry) (l : List (Int × Int × Nat)) : Prop := ents.toList = l.map fun e => ⟨.int .i64 e.1, .int .i64 e.2.1, e.2.2⟩

abbrev R0 : Value → Option (DataW Unit × List MemPlace) := fun _ => some (.lit (.bool false), [])

theorem owns_im {P : Program} {w : World} {b : Nat} {M : IMap} {ents : Array MapEntry} (hk : P.underlying 3 = some (.int .i64)) (hM : imOk M = true) (hb : w.heap[b]? = some (.map ents M.2)) (he : EntsOf ents M.1) :
    ∃ D, w.ownsMap P 3 R0 b M.1.length D ∧ (intKeys D).Perm (M.1.map fun e => e.1) ∧ Maps.size D = M.1.length := by
  unfold imOk at hM
  have h1 := cond_left hM; rw [h1] at hM; simp only [cond_true] at hM
  have h2 := cond_left hM; rw [h2] at hM; simp only [cond_true] at hM
  have h3 := cond_left hM; rw [h3] at hM; simp only [cond_true] at hM
  have hlen : M.1.length ≤ 1000000 := Nat.le_of_ble_eq_true h1
  have hall : ∀ e ∈ M.1, e.2.2 < M.2 ∧ -9223372036854775808 ≤ e.1 ∧ e.1 ≤ 9223372036854775807 := fun e he => by
    have := List.all_eq_true.1 h2 e he
    have a1 := cond_left this; rw [a1] at this; simp only [cond_true] at this
    have a2 := cond_left this; rw [a2] at this; simp only [cond_true] at this
    exact ⟨Nat.le_of_ble_eq_true a1, of_decide_eq_true a2, of_decide_eq_true this⟩
  have hkey : ∀ e ∈ M.1, Go.keyOf P 3 (.int .i64 e.1) = some (.int .i64 e.1) := fun e he => by
    obtain ⟨-, h4, h5⟩ := hall e he
    exact keyOf_int_mk hk (by show (decide (_ ≤ _) && decide (_ ≤ _)) = true; rw [Bool.and_eq_true]; exact ⟨decide_eq_true h4, decide_eq_true h5⟩)
  have hsz : ents.size = M.1.length := by rw [← Array.length_toList, he, List.length_map]
  have hrd : ∀ e ∈ M.1, Go.WideElems.rd P 3 R0 ⟨.int .i64 e.1, .int .i64 e.2.1, e.2.2⟩ = some (.int .i64 e.1, .lit (.bool false)) := fun e he => by
    simp [Go.WideElems.rd, hkey e he, R0]
  refine ⟨_, ⟨ents, M.2, hb, ⟨?_, ⟨?_, ?_, ?_⟩, ?_⟩, Nat.le_of_eq hsz, rfl⟩, ?_, ?_⟩
  · rw [hsz]; unfold maxLen; omega
  · intro x hx; rw [he] at hx; obtain ⟨e, h4, rfl⟩ := List.mem_map.1 hx; exact (hall e h4).1
  · rw [he, List.map_map]; exact nodupB_ok h3
  · rw [he, List.map_map]
    have := nodupB_ok hM
    rw [show (fun x : MapEntry => x.key) ∘ (fun e : Int × Int × Nat => (⟨.int .i64 e.1, .int .i64 e.2.1, e.2.2⟩ : MapEntry)) = (Value.int .i64) ∘ fun e => e.1 from rfl, ← List.map_map]
    exact List.pairwise_map.2 (this.imp fun hne h => hne (by cases h; rfl))
  · intro x hx; rw [he] at hx; obtain ⟨e, h4, rfl⟩ := List.mem_map.1 hx; exact ⟨_, hrd e h4⟩
  · show (List.map _ _).Perm _
    refine ((WideShapes.sorted_perm _).map _).trans ?_
    rw [he, List.map_map, List.map_map]
    refine .of_eq (List.map_congr_left fun e h4 => ?_)
    simp [Go.WideElems.rg, hrd e h4]; rfl
  · simp [Maps.size, length_sorted, hsz]
theorem imOk_len {M : IMap} (hM : imOk M = true) : M.1.length ≤ 1000000 := Nat.le_of_ble_eq_true (cond_left hM)

theorem sortedKeys_run {w : World} {Bm b : Nat} {M : IMap} {ents : Array MapEntry} (hM : imOk M = true) (hBm : w.cell? ⟨Bm, 0, none⟩ = some (.map (some b))) (hlt : Bm < w.heap.size) (hb : w.heap[b]? = some (.map ents M.2)) (he : EntsOf ents M.1) :
    CallsIn Fence.wide 5 Tryz.prog 82 #[.func (.func 102) #[] #[.pointer (some ⟨Bm, 0, none⟩)]] w fun e w' => ∃ v, e = .returned v ∧ w'.ownsRow w.heap.size 3 1 v (imKeys M).length ((imKeys M).map (Value.int .i64)) ∧ Below w.heap.size w w' := by
  obtain ⟨D, hown, hperm, hsize⟩ := owns_im (P := Tryz.prog) (by kernel_rfl) hM hb he
  have hlen := imOk_len hM
  have hseq : SeqGives Fence.wide 2 Tryz.prog 102 #[.pointer (some ⟨Bm, 0, none⟩)] encZ (fun ss => ss.Perm (intKeys D)) (Maps.size D) w :=
    AnyZI.keys_gives (ρ := Tryz.keys83_ren) { Tryz.keys83 with } Fence.wide _ trivial rfl (by omega) Bm b _ D w hlt hBm hown
  have hrun := AnyZI.sorted_in Tryz.sorted82 Fence.wide 5 trivial trivial trivial trivial rfl (by omega) (Tryz.sorts82 _) (enters_of Tryz.func101 (by kernel_rfl) rfl) 102 #[.pointer (some ⟨Bm, 0, none⟩)] trivial (enters_of Tryz.func102 (by kernel_rfl) rfl) _ _ (by rw [hsize]; unfold maxLen; omega) (by rw [hsize]; omega) _ hseq
  refine CallsIn.mono (show CallsIn _ _ Tryz.prog 82 _ _ _ from hrun) ?_
  rintro e w' ⟨v, ss, rfl, hS, hrow, -, hbel⟩
  have hp := hS.trans hperm
  rw [mergeSort_sortZ hp] at hrow
  have hl : ss.length = (imKeys M).length := hp.length_eq.trans (sortZ_perm _).length_eq.symm
  rw [hl] at hrow
  exact ⟨v, rfl, hrow, hbel⟩

/-- A row of its own reads as a slice of numbers. -/
theorem reads_row {w : World} {S : Nat → Nat → Prop} {base : Nat} {v : Value} {l : List Int} (h : w.ownsRow base 3 1 v l.length (l.map (Value.int .i64))) (hS : ∀ b o, base ≤ b → b < w.heap.size → S b o) : Reads S w (.sl 1 (Enc.encL l)) v := by
  rcases h.2 with ⟨rfl, h0⟩ | ⟨g, cap, cur, rfl, hg, hcur, hn, -, hsz, htk⟩
  · have : l = [] := List.eq_nil_of_length_eq_zero h0
    subst this
    exact .sl 1 [] none 0 0 0 (fun _ _ => undef) (Nat.le_refl _) (fun h => absurd rfl h) (fun i e h => by simp at h) (fun i e j c h => by simp at h) (fun i e j c h => by simp at h) (fun i e j c h => by simp at h)
  · have hlt : g < w.heap.size := heap_lt hcur
    have hget : ∀ (i : Nat) (e : List C), (Enc.encL l)[i]? = some e → ∃ x, l[i]? = some x ∧ e = [.v (.int .i64 x)] := fun i e hi => by
      rw [Enc.map, List.getElem?_map] at hi
      cases hx : l[i]? with
      | none => rw [hx] at hi; cases hi
      | some x => rw [hx] at hi; cases hi; exact ⟨x, rfl, rfl⟩
    have hcell : ∀ (i : Nat) (x : Int), l[i]? = some x → w.cell? ⟨g, i, none⟩ = some (.int .i64 x) := fun i x hx => by
      have hi : i < l.length := (List.getElem?_eq_some_iff.1 hx).1
      have h1 : (cur.toList.take (l.length * 1))[i]? = some (.int .i64 x) := by rw [htk, List.getElem?_map, hx]; rfl
      rw [List.getElem?_take] at h1
      rw [if_pos (by omega)] at h1
      simp only [World.cell?, hcur, Option.isSome_none, Bool.false_eq_true, if_false]
      rw [← Array.getElem?_toList]; exact h1
    have := Reads.sl (S := S) (w := w) 1 (Enc.encL l) (some ⟨g, 0, none⟩) cap g 0 (fun i j => .int .i64 (l.getD i 0)) (by rw [Enc.len]; exact hn) (fun _ => rfl)
      (fun i e hi => by obtain ⟨x, -, rfl⟩ := hget i e hi; rfl)
      (fun i e j c hi hj => by
        obtain ⟨x, hx, rfl⟩ := hget i e hi
        cases j with
        | zero => rw [List.getD_eq_getElem?_getD, hx]; simpa using hcell i x hx
        | succ j => simp at hj)
      (fun i e j c hi hj => hS _ _ hg hlt)
      (fun i e j c hi hj => by
        obtain ⟨x, hx, rfl⟩ := hget i e hi
        cases j with
        | zero => simp at hj; subst hj; rw [List.getD_eq_getElem?_getD, hx]; exact Reads.v _ rfl
        | succ j => simp at hj)
    rw [Enc.len] at this; exact this

theorem sortedKeys_call {m : Mem} {b i : Nat} {T : TypeId} {M : IMap} (hb : lk m.hp b = some (.cells T [.mp i])) (hi : lk m.hp i = some (.mp (imE M.1) M.2)) (hM : imOk M = true) :
    CallM Tryz.prog 82 [.one (.fn 102 [(b, 0)])] m (.v (.one (.d (.sl 1 (Enc.encL (imKeys M)))))) m := by
  refine ⟨enters_of Tryz.func82 (by kernel_rfl) rfl, fun E V w vs hP H hn hargs => ?_⟩
  obtain ⟨hbl, o, ho, us, rfl, hus⟩ := H.own b _ hb
  obtain ⟨u, hu, -, rfl⟩ := hus.2 0 _ rfl
  obtain ⟨-, o2, ho2, ents, rfl, hsz, hents⟩ := H.own i _ hi
  obtain ⟨a, ha, -, rfl⟩ := hargs.2 0 _ rfl
  have hvs : vs = #[.func (.func 102) #[] #[.pointer (some ⟨V.ι b, 0, none⟩)]] := by
    have h1 : vs.size = 1 := hargs.1
    apply Array.ext_getElem?
    intro k
    cases k with
    | zero => rw [ha]; rfl
    | succ k => simp [h1]
  rw [hvs]
  have hE : EntsOf ents M.1 := by
    have hlen : (imE M.1).length = M.1.length := by simp [imE]
    apply List.ext_getElem?
    intro k
    rw [List.getElem?_map]
    cases hk : M.1[k]? with
    | none =>
      have : M.1.length ≤ k := List.getElem?_eq_none_iff.1 hk
      rw [Option.map_none, List.getElem?_eq_none_iff, Array.length_toList]; omega
    | some e =>
      obtain ⟨v, h1, h2⟩ := hents k (.int .i64 e.1) (.one (.d (.v (.int .i64 e.2.1)))) e.2.2 (by simp [imE, hk])
      have hv : v = .int .i64 e.2.1 := by cases h2; rfl
      rw [hv] at h1
      rw [Array.getElem?_toList, h1]; rfl
  refine Calls.mono ((callsIn_wide (n := 5)).1 (sortedKeys_run (Bm := V.ι b) (b := V.ι i) hM ?_ (heap_lt ho) ho2 hE)) ?_
  · simp only [World.cell?, ho, Option.isSome_none, Bool.false_eq_true, if_false]; exact hu
  · rintro e w' ⟨v, rfl, hrow, hbel⟩
    have hx : ExtF w w' := ⟨hbel.os, hbel.tape, hbel.output, hbel.size, fun k hk _ => hbel.block k hk⟩
    have hg : V.Grow { V with S := fun b o => V.S b o ∨ (w.heap.size ≤ b ∧ b < w'.heap.size) } w w' := ⟨Nat.le_refl _, fun _ _ => rfl, fun _ _ => rfl, fun _ _ _ _ => rfl, fun b o h => .inl h, fun b o h => h.elim .inl fun h => .inr h.1,
      fun b o h => h.elim (fun h => Nat.lt_of_lt_of_le (H.sz b o h) hbel.size) fun h => h.2⟩
    exact ⟨v, _, rfl, H.later hx hg, hn, H.le hx hg, reads_row hrow (fun b o h1 h2 => .inr ⟨h1, h2⟩)⟩

theorem OpOK.sortedKeys {E : Env} {st : St} {dd : Option Tmp} {ty : TypeId} {pos : String} {af : Array Edge} {g : Option (Nat × Bool)} {xs : Array Operand} {ats : Array TypeId} {b i : Nat} {T : TypeId} {M : IMap} (hP : E.P = Tryz.prog) (ha : evArgs st.tm xs.toList = some [.one (.fn 102 [(b, 0)])])
    (hb : lk st.hp b = some (.cells T [.mp i])) (hi : lk st.hp i = some (.mp (imE M.1) M.2)) (hM : imOk M = true) :
    OpOK E ⟨dd, .call { callee := .value (.func 82), args := xs, argTypes := ats }, ty, pos, af, g⟩ st (.v (.one (.d (.sl 1 (Enc.encL (imKeys M)))))) ⟨st.hp, st.tk, st.nx⟩ :=
  OpOK.call (E := E) (st := st) (dd := dd) (ty := ty) (pos := pos) (af := af) (g := g) (x := .func 82) (caps := []) rfl ha (by rw [hP]; exact sortedKeys_call hb hi hM)
end Go.Proofs.YtcapifnaceegmaaGreatDoor
