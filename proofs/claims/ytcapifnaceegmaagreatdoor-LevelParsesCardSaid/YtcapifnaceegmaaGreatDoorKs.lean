/- Contracts of Go's library on strings, as functions on data. -/
import Derived.Test.YtcapifnaceegmaaGreatDoorKyl
import Derived.Test.YtcapifnaceegmaaGreatDoorStr
import Derived.Lib.AtoiErrMem
namespace Go.Proofs.YtcapifnaceegmaaGreatDoor
open Go.RowKit Go.Shelf
set_option linter.unusedSimpArgs false
set_option linter.unusedVariables false
set_option linter.unusedSectionVars false

theorem ext_of_below {w w' : World} (h : Below w.heap.size w w') : ExtF w w' := ⟨h.os, h.tape, h.output, h.size, fun k hk _ => h.block k hk⟩

theorem Fun.of_vals {P : Program} {f : FuncId} {vs0 : List Value} {res : TV} (v : Value) (hen : Enters P f) (hres : ∀ V w, res.rel V w v) (h : ∀ w, Calls P f vs0.toArray w fun e w' => e = .returned v ∧ ExtF w w') : Fun P f (vs0.map fun a => .one (.d (.v a))) res := by
  refine ⟨hen, fun S w vs hS hargs => ?_⟩
  have hsz : vs.size = vs0.length := by rw [hargs.1, List.length_map]
  have hvs : vs = vs0.toArray := by
    apply Array.ext_getElem?
    intro k
    cases hk : vs0[k]? with
    | none =>
      have := List.getElem?_eq_none_iff.1 hk
      rw [Array.getElem?_eq_none (by omega)]
      simp [hk]
    | some a =>
      obtain ⟨u, h1, h2⟩ := hargs.2 k (.one (.d (.v a))) (by rw [List.getElem?_map, hk]; rfl)
      have e : u = a := by cases h2; rfl
      rw [h1, e]
      simp [hk]
  rw [hvs]
  exact (h w).mono fun e w' ⟨he, hx⟩ => ⟨v, S, he, hx, fun _ _ h => h, fun b o h => ⟨.inl h, Nat.lt_of_lt_of_le (hS b o h) hx.size⟩, hres _ _⟩

/-- the digits of a number less than 100 -/
def dig2 (n : Int) : List UInt8 := cond (decide (n < 10)) [UInt8.ofNat (48 + n.toNat)] [UInt8.ofNat (48 + n.toNat / 10), UInt8.ofNat (48 + n.toNat % 10)]
theorem dig2_eq (k : Nat) (h : k < 100) : dig2 k = Lib.decDigits k := by
  unfold dig2
  rw [Int.toNat_natCast]
  by_cases h1 : k < 10
  · rw [decide_eq_true (by omega : (k : Int) < 10), cond_true, Lib.decDigits, dif_pos h1]
  · rw [decide_eq_false (by omega : ¬ (k : Int) < 10), cond_false, Lib.decDigits, dif_neg h1, Lib.decDigits, dif_pos (by omega : k / 10 < 10)]
    rfl
set_option maxRecDepth 100000 in
theorem itoa_fun (n : Int) (h : (cond (decide (0 ≤ n)) (decide (n < 100)) false) = true) : Fun Tryz.prog 63 [.one (.d (.v (.int .i64 n)))] (TS (dig2 n)) := by
  have h0 : 0 ≤ n := of_decide_eq_true (cond_left h)
  have h1 : n < 100 := of_decide_eq_true (cond_right h)
  obtain ⟨k, rfl⟩ := Int.eq_ofNat_of_zero_le h0
  refine Fun.of_vals (vs0 := [.int .i64 k]) (.string (sB (dig2 k))) (enters_of Tryz.func63 (by kernel_rfl) rfl) (fun V w => rel_of rfl) fun w => ?_
  refine Calls.mono (Any.strconv_Itoa_small Tryz.lays171 k (by omega) w) ?_
  rintro e w' ⟨rfl, rfl⟩
  exact ⟨by rw [dig2_eq k (by omega)]; rfl, ExtM.refl _ _⟩
set_option maxRecDepth 100000 in
theorem trim_fun (s : List UInt8) : Fun Tryz.prog 79 [.one (dS8 s), .one (dS8 [32])] (TS (s.dropWhile (· == 32))) := by
  refine Fun.of_vals (vs0 := [.string (sB s), .string (sB [32])]) (.string (sB (s.dropWhile (· == 32)))) (enters_of Tryz.func79 (by kernel_rfl) rfl) (fun V w => rel_of rfl) fun w => ?_
  refine Calls.mono (Any.strings_TrimLeft_one Tryz.lays161 (sB s) 32 (by decide) w) ?_
  rintro e w' ⟨rfl, rfl⟩
  exact ⟨rfl, ExtM.refl _ _⟩
theorem tup2 {a b : Value} {x y : AV} (h1 : ∀ V w, x.rel V w a) (h2 : ∀ V w, y.rel V w b) : ∀ V w, (TV.tup [x, y]).rel V w (.tuple #[a, b]) := fun V w =>
  ⟨#[a, b], rfl, rfl, fun i z hz => by
    match i, hz with
    | 0, hz => cases hz; exact ⟨a, rfl, h1 V w⟩
    | 1, hz => cases hz; exact ⟨b, rfl, h2 V w⟩⟩
theorem one_rel {v : Value} (h : v.oneCell' = true) : ∀ V w, (AV.one (.d (.v v))).rel V w v := fun V w => Reads.v v h
set_option maxRecDepth 100000 in
theorem cut_fun (s p : List UInt8) : Fun Tryz.prog 80 [.one (dS8 s), .one (dS8 p)] (.tup [.one (dS8 (Lib.trimPrefix s p)), .one (.d (.v (.bool (Lib.hasPrefix s p))))]) := by
  refine Fun.of_vals (vs0 := [.string (sB s), .string (sB p)]) (.tuple #[.string (sB (Lib.trimPrefix s p)), .bool (Lib.hasPrefix s p)]) (enters_of Tryz.func80 (by kernel_rfl) rfl) (tup2 (one_rel rfl) (one_rel rfl)) fun w => ?_
  refine Calls.mono (Any.strings_CutPrefix Tryz.lays103 (sB s) (sB p) w) ?_
  rintro e w' ⟨rfl, rfl⟩
  exact ⟨rfl, ExtM.refl _ _⟩
def atoiL (s : List UInt8) : Int := (Lib.atoi s).getD 0
set_option maxRecDepth 100000 in
theorem atoi_fun (s : List UInt8) (h : (cond (Nat.ble s.length 18) (Lib.atoi s).isSome false) = true) : Fun Tryz.prog 99 [.one (dS8 s)] (.tup [.one (.d (.v (.int .i64 (atoiL s)))), .one (.d (.v .nilIface))]) := by
  have h0 := Nat.le_of_ble_eq_true (cond_left h)
  obtain ⟨n, hn⟩ := Option.isSome_iff_exists.1 (cond_right h)
  have e : atoiL s = n := by unfold atoiL; rw [hn]; rfl
  rw [e]
  refine Fun.of_vals (vs0 := [.string (sB s)]) (.tuple #[.int .i64 n, .nilIface]) (enters_of Tryz.func99 (by kernel_rfl) rfl) (tup2 (one_rel rfl) (one_rel rfl)) fun w => ?_
  refine Calls.mono (Any.strconv_Atoi Tryz.lays172 (sB s) n (by rw [sB_size]; exact h0) hn w) ?_
  rintro e w' ⟨rfl, t, rfl⟩
  exact ⟨rfl, ext_of_below (Lib.bytesWorld_below _ _ _)⟩
set_option maxRecDepth 100000 in
theorem join_str_fun (xs : List (List UInt8)) (sep : List UInt8) (h : (cond (Nat.ble xs.length 1000000) (Nat.ble (Lib.join xs sep).length 1000000000) false) = true) : Fun Tryz.prog 66 [.one (.d (.sl 1 (xs.map strL))), .one (dS8 sep)] (TS (Lib.join xs sep)) := by
  have h0 := Nat.le_of_ble_eq_true (cond_left h)
  have h1 := Nat.le_of_ble_eq_true (cond_right h)
  have hmap : (xs.map sB).map (·.data.toList) = xs := by
    rw [List.map_map]
    have : ((fun x : ByteArray => x.data.toList) ∘ sB) = id := rfl
    rw [this, List.map_id]
  refine ⟨enters_of Tryz.func66 (by kernel_rfl) rfl, fun S w vs hS hargs => ?_⟩
  obtain ⟨u0, hu0, r0⟩ := hargs.2 0 _ rfl
  obtain ⟨u1, hu1, r1⟩ := hargs.2 1 _ rfl
  have e1 : u1 = .string (sB sep) := by cases r1; rfl
  subst e1
  have hvs : vs = #[u0, .string (sB sep)] := by
    apply Array.ext_getElem?
    intro k
    match k with
    | 0 => rw [hu0]; rfl
    | 1 => rw [hu1]; rfl
    | k + 2 => rw [Array.getElem?_eq_none (by rw [hargs.1]; simp)]; simp
  rw [hvs]
  have fin : ∀ (e : Ending) (w' : World), e = .returned (.string (sB (Lib.join xs sep))) ∧ Below w.heap.size w w' → ∃ v S', e = .returned v ∧ ExtF w w' ∧ (∀ b o, S b o → S' b o) ∧ (∀ b o, S' b o → (S b o ∨ w.heap.size ≤ b) ∧ b < w'.heap.size) ∧ (TS (Lib.join xs sep)).rel (Vu.of S') w' v :=
    fun e w' ⟨he, hb⟩ => ⟨_, S, he, ext_of_below hb, fun _ _ h => h, fun b o h => ⟨.inl h, Nat.lt_of_lt_of_le (hS b o h) hb.size⟩, rel_of rfl⟩
  have rd : Reads S w (.sl 1 (xs.map strL)) u0 := r0
  generalize hes : xs.map strL = es at rd
  cases rd with
  | sl _ _ a cap b off f hcap ha hl hc hs hr =>
    subst hes
    rw [List.length_map] at hcap ⊢
    cases xs with
    | nil =>
      refine Calls.mono (Any.strings_Join_none Tryz.lays156 Tryz.bx156 a cap (sB sep) w) ?_
      rintro e w' ⟨rfl, rfl⟩
      exact fin _ _ ⟨rfl, Below.refl _ _⟩
    | cons x r =>
      have ha' := ha (by simp)
      subst ha'
      have hget : ∀ (j : Nat) (y : List UInt8), (x :: r)[j]? = some y → w.cell? ⟨b, off + j, none⟩ = some (.string (sB y)) ∧ S b (off + j) := fun j y hy => by
        have hj : ((x :: r).map strL)[j]? = some (strL y) := by rw [List.getElem?_map, hy]; rfl
        have h3 := hc j (strL y) 0 _ hj rfl
        have h4 := hs j (strL y) 0 _ hj rfl
        have h5 := hr j (strL y) 0 _ hj rfl
        rw [Nat.mul_one, Nat.add_zero] at h3 h4
        have e5 : f j 0 = .string (sB y) := by
          generalize hfv : f j 0 = fv at h5
          cases h5; rfl
        rw [e5] at h3
        exact ⟨h3, h4⟩
      have key := Any.strings_Join Tryz.lays156 Tryz.bx156 b off cap ((x :: r).map sB) (sB sep) w (fun j y hy => by
        rw [List.getElem?_map] at hy
        cases hz : (x :: r)[j]? with
        | none => rw [hz] at hy; cases hy
        | some z => rw [hz] at hy; cases hy; exact (hget j z hz).1) (hS _ _ (hget 0 x rfl).2) (by rw [List.length_map]; omega) (by rw [List.length_map]; exact hcap) (by rw [hmap]; exact Nat.le_trans h1 (by decide))
      rw [hmap, List.length_map] at key
      exact Calls.mono key fin
end Go.Proofs.YtcapifnaceegmaaGreatDoor
