/- More of how arguments are read: the length of a slice, four small numbers. -/
import Derived.Test.YtcapifnaceegmaaGreatDoorCm
import Derived.Test.YtcapifnaceegmaaGreatDoorVl
import Derived.OpenShut
namespace Go.Proofs.YtcapifnaceegmaaGreatDoor
open Go.ChangeShapes Go.WideShapes Go.ChangeAt Go.RowKit Go.WideElems
set_option linter.unusedSimpArgs false
set_option linter.unusedVariables false
set_option linter.unusedSectionVars false

/-- a slice that is read has no more elements than a slice may have -/
theorem slice_len {H : Type} {enc : TypeId × Value → H} {W : World} {t e : TypeId} {v : Value} {d : DataW H} {p : List MemPlace} {S : Nat → Nat → Prop} {sz : Nat} {es : List (List C)} (ht : Tryz.prog.underlying t = some (.slice e))
    (h : DataW.Trod enc Tryz.prog W 0 (fun _ => true) true t v d p) (hv : Reads S W (.sl sz es) v) : es.length ≤ 9223372036854775807 := by
  obtain ⟨fuel, hf⟩ := h
  cases hv with
  | sl _ _ a cap b off f hcap ha hl hc hs hr =>
    have hcell : (Value.slice a es.length cap).cells.toList = [Value.slice a es.length cap] := rfl
    rw [hcell] at hf
    rcases Deep.open_slice ht hf with ⟨h1, -⟩ | ⟨a', len, cap', m, n, D, Pl, h1, -, hlc, hc', -⟩
    · injection h1 with h2 h3
      injection h2 with h4 h5 h6
      omega
    · injection h1 with h2 h3
      injection h2 with h4 h5 h6
      unfold maxLen at hc'
      omega

theorem cells53 : Tryz.prog.cellsOf 53 = 4 := by kernel_rfl
theorem cells5 : Tryz.prog.cellsOf 5 = 1 := by kernel_rfl

theorem small_byte {n : Int} (h : (Lit.int .u8 n).wf = true) : 0 ≤ n ∧ n < 256 := by have := bounds_u8 h; omega

set_option maxRecDepth 100000 in
theorem vals_cells {H : Type} {enc : TypeId × Value → H} {w : World} {t : TypeId} {fs : Array Field} {f0 f1 f2 f3 : Field} (ht : Tryz.prog.underlying t = some (.struct fs)) (hc : Tryz.prog.cellsOf t = 4)
    (e0 : fs[0]? = some f0) (e1 : fs[1]? = some f1) (e2 : fs[2]? = some f2) (e3 : fs[3]? = some f3)
    (t0 : f0.type = 5) (t1 : f1.type = 5) (t2 : f2.type = 5) (t3 : f3.type = 5) (o0 : f0.offset = 0) (o1 : f1.offset = 1) (o2 : f2.offset = 2) (o3 : f3.offset = 3)
    {fuel : Nat} {cs : List Value} {x : DataW H × List MemPlace} (h : DataW.trod enc Tryz.prog w 0 (fun _ => true) true fuel t cs = some x) :
    ∃ v : Vls, cs = [.int .u8 v.u, .int .u8 v.v, .int .u8 v.w, .int .u8 v.n] ∧ (0 ≤ v.u ∧ v.u < 256) ∧ (0 ≤ v.v ∧ v.v < 256) ∧ (0 ≤ v.w ∧ v.w < 256) ∧ (0 ≤ v.n ∧ v.n < 256) := by
  obtain ⟨xs, n, -, -, hl, hx, hf⟩ := DataW.trod_struct ht h
  rw [hc] at hl
  have key : ∀ (i : Nat) (f : Field), fs[i]? = some f → f.type = 5 → f.offset = i → i < 4 → ∃ m : Int, cs[i]? = some (.int .u8 m) ∧ (0 ≤ m ∧ m < 256) := by
    intro i f hi ht' ho hi4
    have h1 := hf i f hi
    rw [ht', ho, cells5] at h1
    have h2 : ∃ y, xs[i]? = some y := ⟨_, List.getElem?_eq_getElem (by rw [hx]; exact (Array.getElem?_eq_some_iff.1 hi).1)⟩
    obtain ⟨y, hy⟩ := h2
    rw [hy] at h1
    obtain ⟨m, h3, -, h4⟩ := DataW.trod_int Tryz.underlying5 h1
    refine ⟨m, ?_, small_byte h4⟩
    have h5 : ((cs.drop i).take 1)[0]? = some (.int .u8 m) := by rw [h3]; rfl
    rw [List.getElem?_take, if_pos (by omega), List.getElem?_drop] at h5
    exact h5
  obtain ⟨m0, a0, b0⟩ := key 0 f0 e0 t0 o0 (by omega)
  obtain ⟨m1, a1, b1⟩ := key 1 f1 e1 t1 o1 (by omega)
  obtain ⟨m2, a2, b2⟩ := key 2 f2 e2 t2 o2 (by omega)
  obtain ⟨m3, a3, b3⟩ := key 3 f3 e3 t3 o3 (by omega)
  match cs, hl with
  | [c0, c1, c2, c3], _ =>
    cases a0; cases a1; cases a2; cases a3
    exact ⟨⟨m0, m1, m2, m3⟩, rfl, b0, b1, b2, b3⟩

set_option maxRecDepth 100000 in
/-- four small numbers among the arguments -/
theorem vals_reads {H : Type} {enc : TypeId × Value → H} {W : World} {base : Nat} {v : Value} {d : DataW H} {p : List MemPlace}
    (hval : Value.okWide Tryz.prog W .any base 53 v) (h : DataW.Trod enc Tryz.prog W 0 (fun _ => true) true 53 v d p) : ∃ L : Vls, (AV.agg (cE L)).rel (Vu.of (allS W)) W v ∧ (0 ≤ L.u ∧ L.u < 256) ∧ (0 ≤ L.v ∧ L.v < 256) ∧ (0 ≤ L.w ∧ L.w < 256) ∧ (0 ≤ L.n ∧ L.n < 256) := by
  obtain ⟨fuel, hf⟩ := h
  obtain ⟨L, hl, hb⟩ := vals_cells Tryz.underlying53 cells53 rfl rfl rfl rfl rfl rfl rfl rfl rfl rfl rfl rfl hf
  obtain ⟨cs, rfl, -⟩ := okWide_struct Tryz.underlying53 hval
  have hc : (Value.agg cs).cells = cs := rfl
  rw [hc] at hl
  refine ⟨L, ⟨cs, rfl, ?_, fun i x hx => ?_⟩, hb⟩
  · rw [← Array.length_toList, hl]; rfl
  · rw [← Array.getElem?_toList, hl]
    match i, hx with
    | 0, hx => cases hx; exact ⟨_, rfl, .v _ rfl⟩
    | 1, hx => cases hx; exact ⟨_, rfl, .v _ rfl⟩
    | 2, hx => cases hx; exact ⟨_, rfl, .v _ rfl⟩
    | 3, hx => cases hx; exact ⟨_, rfl, .v _ rfl⟩
end Go.Proofs.YtcapifnaceegmaaGreatDoor
