/- The statement DependRepeatsUpto is proved here: for every list of declarations and every list of names the law returns true, and the arguments read behind the call as they did before; condition: the arguments are of bulk at most 1048576 (the second form). -/
import Derived.Test.YtijcchddnnnmdaaK55
import Derived.Deep.Slices
import Derived.ChangeSame
import Derived.Test.YtijcchddnnnmdaaRows
import Derived.Test.YtijcchddnnnmdaaProg
import Derived.Test.YtijcchddnnnmdaaChecked
import Derived.ProofKit
import Derived.Carry
import Derived.JoinedCond
namespace Go.Proofs.Ytijcchddnnnmdaa
open Go.RowKit Go.Lib
set_option linter.unusedSimpArgs false
set_option linter.unusedVariables false
set_option linter.unusedSectionVars false
theorem all_cons (d : Dcl) (l : List Dcl) : QE (d :: l) = Ju d ++ QE l := by unfold QE; simp
theorem pos_inj {s : U3} : ∀ {l : List Dcl} {p q : Nat} {d e : Dcl}, (QE l).Nodup → l[p]? = some d → l[q]? = some e → s ∈ Ju d → s ∈ Ju e → p = q
  | [], p, q, d, e, _, h, _, _, _ => by cases h
  | x :: l, 0, 0, d, e, _, _, _, _, _ => rfl
  | x :: l, 0, q + 1, d, e, hn, h1, h2, h3, h4 => by
    rw [all_cons] at hn
    cases h1
    exact absurd rfl ((List.nodup_append.1 hn).2.2 s h3 s (ZR.2 ⟨e, List.mem_of_getElem? h2, h4⟩))
  | x :: l, p + 1, 0, d, e, hn, h1, h2, h3, h4 => by
    rw [all_cons] at hn
    cases h2
    exact absurd rfl ((List.nodup_append.1 hn).2.2 s h4 s (ZR.2 ⟨d, List.mem_of_getElem? h1, h3⟩))
  | x :: l, p + 1, q + 1, d, e, hn, h1, h2, h3, h4 => by
    rw [all_cons] at hn
    rw [pos_inj (List.nodup_append.1 hn).2.1 h1 h2 h3 h4]
theorem own_iff {env : List Dcl} (hn : (QE env).Nodup) {s : U3} {i : Nat} : Zg 0 env s = some (i : Int) ↔ ∃ d, env[i]? = some d ∧ s ∈ Ju d := by
  constructor
  · intro h
    obtain ⟨k, d, h1, h2, h3⟩ := ownO_some s env 0 i h
    obtain rfl : i = k := by omega
    exact ⟨d, h2, h3⟩
  · rintro ⟨d, h1, h2⟩
    obtain ⟨q, h3, h4⟩ := ownO_le s env 0 i d h1 h2
    obtain ⟨k, e, h5, h6, h7⟩ := ownO_some s env 0 _ h4
    have := pos_inj hn h1 h6 h2 h7
    rw [h4]
    congr 1
    omega
theorem Z6 {env : List Dcl} (hn : (QE env).Nodup) {nm : List U3} {i : Nat} : ZV env nm i ↔ ∃ d s, env[i]? = some d ∧ s ∈ nm ∧ s ∈ Ju d := by
  unfold ZV
  constructor
  · rintro ⟨s, hs, h⟩
    obtain ⟨d, h1, h2⟩ := (own_iff hn).1 h
    exact ⟨d, s, h1, hs, h2⟩
  · rintro ⟨d, s, h1, h2, h3⟩
    exact ⟨s, h2, (own_iff hn).2 ⟨d, h1, h3⟩⟩
theorem ed_iff {env : List Dcl} (hn : (QE env).Nodup) (hc : JV env env) {i j : Nat} : Ed (Yw env) i j ↔ ∃ d e s, env[i]? = some d ∧ env[j]? = some e ∧ s ∈ Kt d ∧ s ∈ Ju e := by
  unfold Ed Yw
  rw [List.getElem?_map]
  constructor
  · rintro ⟨l, h1, h2⟩
    cases hd : env[i]? with
    | none => rw [hd] at h1; cases h1
    | some d =>
      rw [hd] at h1
      cases h1
      have hcd := hc d (List.mem_of_getElem? hd)
      obtain ⟨s, hs, e⟩ := List.mem_map.1 ((row_mem hcd _).1 h2)
      obtain ⟨k, hk, e2⟩ := ownV_range (hcd s hs)
      unfold KT at e
      rw [e2] at e
      have e3 : k = j := by simp only [Option.getD_some] at e; omega
      subst e3
      obtain ⟨x, h3, h4⟩ := (own_iff hn).1 e2
      exact ⟨d, x, s, rfl, h3, hs, h4⟩
  · rintro ⟨d, e, s, h1, h2, h3, h4⟩
    rw [h1]
    refine ⟨_, rfl, (row_mem (hc d (List.mem_of_getElem? h1)) _).2 (List.mem_map.2 ⟨s, h3, ?_⟩)⟩
    unfold KT
    rw [(own_iff hn).2 ⟨e, h2, h4⟩]
    rfl
theorem mem_sel {b : List Bool} {d : Dcl} : ∀ {l : List Dcl} {i : Nat}, d ∈ Ke b i l ↔ ∃ k : Nat, l[k]? = some d ∧ WY b (i + k)
  | [], i => by simp [Ke]
  | x :: l, i => by
    have ih := mem_sel (b := b) (d := d) (l := l) (i := i + 1)
    simp only [Ke]
    constructor
    · intro h
      by_cases hx : b[i]? = some true
      · rw [show (b[i]? == some true) = true from by rw [hx]; rfl] at h
        rcases List.mem_cons.1 h with rfl | h
        · exact ⟨0, rfl, hx⟩
        · obtain ⟨k, h1, h2⟩ := ih.1 h
          exact ⟨k + 1, h1, by rw [show i + (k + 1) = i + 1 + k by omega]; exact h2⟩
      · rw [show (b[i]? == some true) = false from by rw [Bool.eq_false_iff]; exact fun h' => hx (beq_iff_eq.1 h')] at h
        obtain ⟨k, h1, h2⟩ := ih.1 h
        exact ⟨k + 1, h1, by rw [show i + (k + 1) = i + 1 + k by omega]; exact h2⟩
    · rintro ⟨k, h1, h2⟩
      cases k with
      | zero =>
        cases h1
        rw [show (b[i]? == some true) = true from by rw [show b[i]? = some true from h2]; rfl]
        simp
      | succ k =>
        have h3 := ih.2 ⟨k, h1, by rw [show i + 1 + k = i + (k + 1) by omega]; exact h2⟩
        cases (b[i]? == some true) with
        | true => exact List.mem_cons_of_mem _ h3
        | false => exact h3
theorem sel_all {b : List Bool} : ∀ {l : List Dcl} {i : Nat}, (∀ k, k < l.length → WY b (i + k)) → Ke b i l = l
  | [], i, _ => rfl
  | x :: l, i, h => by
    simp only [Ke]
    rw [show (b[i]? == some true) = true from by rw [show b[i]? = some true from h 0 (by simp)]; rfl, sel_all (i := i + 1) fun k hk => by
      have := h (k + 1) (by simpa using hk)
      rwa [show i + (k + 1) = i + 1 + k by omega] at this]
    rfl
theorem sub_size {l env : List Dcl} (h : l.Sublist env) : YY l ≤ YY env := by
  induction h with
  | slnil => exact Nat.le_refl _
  | cons x _ ih => rw [size_cons]; omega
  | cons_cons x _ ih => rw [size_cons, size_cons]; omega
theorem sub_names {l env : List Dcl} (h : l.Sublist env) : (QE l).Sublist (QE env) := by
  induction h with
  | slnil => exact List.Sublist.refl _
  | cons x _ ih => rw [all_cons]; exact ih.trans (List.sublist_append_right _ _)
  | cons_cons x _ ih => rw [all_cons, all_cons]; exact (List.Sublist.refl _).append ih
theorem Least.again {E : Nat → Nat → Prop} {n : Nat} {S S' : Nat → Prop} {b c : List Bool} (hb : Least E n S b) (hc : Least E n S' c) (h1 : ∀ i, S i → S' i) (h2 : ∀ i, S' i → WY b i) : c = b :=
  on_ext (by rw [hc.len, hb.len]) fun i => ⟨hc.min (WY b) h2 hb.cl i, hb.min (WY c) (fun j hj => hc.start j (h1 j hj)) hc.cl i⟩
theorem again_eq {d : Bool} {env : List Dcl} {nm : List U3} {b : List Bool} {β : Type} {f : Dcl → List β} (h1 : (QE env).Nodup) (h2 : JV env env) (hb : Least (U2 d (Yw env)) env.length (ZV env nm) b) {r : List β × Int}
    (h : RSays d f env (((Ke b 0 env).map Ju).flatten) r) : r = (((Ke b 0 env).map f).flatten, 0) := by
  have hsub : ∀ s, s ∈ ((Ke b 0 env).map Ju).flatten ↔ ∃ k x, env[k]? = some x ∧ WY b k ∧ s ∈ Ju x := fun s => by
    have := ZR (env := Ke b 0 env) (s := s)
    unfold QE at this
    rw [this]
    constructor
    · rintro ⟨x, hx, hs⟩
      obtain ⟨k, h3, h4⟩ := mem_sel.1 hx
      rw [Nat.zero_add] at h4
      exact ⟨k, x, h3, h4, hs⟩
    · rintro ⟨k, x, h3, h4, hs⟩
      exact ⟨x, mem_sel.2 ⟨k, h3, by rw [Nat.zero_add]; exact h4⟩, hs⟩
  cases h with
  | twice h => contradiction
  | none h h' => contradiction
  | miss h h' h3 =>
    refine absurd (fun s hs => ?_) h3
    obtain ⟨k, x, h4, -, h5⟩ := (hsub s).1 hs
    exact ZR.2 ⟨x, List.mem_of_getElem? h4, h5⟩
  | ok h h' h3 c hc =>
    rw [hb.again hc]
    · intro i hi
      obtain ⟨x, s, h4, h5, h6⟩ := (Z6 h1).1 hi
      exact (Z6 h1).2 ⟨x, s, h4, (hsub s).2 ⟨i, x, h4, hb.start i hi, h6⟩, h6⟩
    · intro i hi
      obtain ⟨x, s, h4, h5, h6⟩ := (Z6 h1).1 hi
      obtain ⟨k, y, h7, h8, h9⟩ := (hsub s).1 h5
      rw [pos_inj h1 h4 h7 h6 h9]
      exact h8
theorem again_sub {env : List Dcl} {nm : List U3} {b : List Bool} (h1 : (QE env).Nodup) (h2 : JV env env) (h3 : ∀ s ∈ nm, s ∈ QE env) (hb : Least (U2 false (Yw env)) env.length (ZV env nm) b) {r : List Dcl × Int}
    (h : RSays false one (Ke b 0 env) nm r) : r = (Ke b 0 env, 0) := by
  have hsub := Gc b env 0
  have hn : (QE (Ke b 0 env)).Nodup := h1.sublist (sub_names hsub)
  have hms : ∀ x, x ∈ Ke b 0 env ↔ ∃ k : Nat, env[k]? = some x ∧ WY b k := fun x => by
    have := mem_sel (b := b) (d := x) (l := env) (i := 0)
    simpa using this
  have hc : JV (Ke b 0 env) (Ke b 0 env) := by
    intro x hx s hs
    obtain ⟨k, h4, h5⟩ := (hms x).1 hx
    obtain ⟨y, hy, h6⟩ := ZR.1 (h2 x (List.mem_of_getElem? h4) s hs)
    obtain ⟨j, hj⟩ := List.mem_iff_getElem?.1 hy
    exact ZR.2 ⟨y, (hms y).2 ⟨j, hj, hb.cl k j ((ed_iff h1 h2).2 ⟨x, y, s, h4, hj, hs, h6⟩) h5⟩, h6⟩
  have ha : ∀ s ∈ nm, s ∈ QE (Ke b 0 env) := by
    intro s hs
    obtain ⟨y, hy, h6⟩ := ZR.1 (h3 s hs)
    obtain ⟨j, hj⟩ := List.mem_iff_getElem?.1 hy
    exact ZR.2 ⟨y, (hms y).2 ⟨j, hj, hb.start j ((Z6 h1).2 ⟨y, s, hj, hs, h6⟩)⟩, h6⟩
  cases h with
  | twice h => contradiction
  | none h h' => contradiction
  | miss h h' h3 => contradiction
  | ok h h' h3 c hcl =>
    have key : ∀ i, WY b i → WY b i ∧ ∀ k x, (Ke b 0 env)[k]? = some x → env[i]? = some x → WY c k := by
      refine hb.min _ (fun i hi => ⟨hb.start i hi, fun k x hk hx => ?_⟩) (fun i j e hi => ?_)
      · obtain ⟨y, s, h4, h5, h6⟩ := (Z6 h1).1 hi
        rw [hx] at h4
        cases h4
        exact hcl.start k ((Z6 hn).2 ⟨x, s, hk, h5, h6⟩)
      · refine ⟨hb.cl i j e hi.1, fun k y hk hy => ?_⟩
        obtain ⟨x, z, s, h4, h5, h6, h7⟩ := (ed_iff h1 h2).1 e
        rw [hy] at h5
        cases h5
        obtain ⟨p, hp⟩ := List.mem_iff_getElem?.1 ((hms x).2 ⟨i, h4, hi.1⟩)
        exact hcl.cl p k ((ed_iff hn hc).2 ⟨x, y, s, hp, hk, h6, h7⟩) (hi.2 p x hp h4)
    rw [Ku, sel_all]
    intro k hk
    have ek : (Ke b 0 env)[k]? = some (Ke b 0 env)[k] := List.getElem?_eq_getElem hk
    obtain ⟨i, h4, h5⟩ := (hms _).1 (List.mem_of_getElem? ek)
    rw [Nat.zero_add]
    exact (key i h5).2 k _ ek h4
theorem gather_eq (L : List Dcl) (k : Int) (h : YY L ≤ 100000000) : Qw (Gg (L, k)) QF ([], 0) = some (L.map Ju).flatten := by
  have hel := ZT L
  have hal := all_len L
  obtain ⟨r, e, rfl⟩ := Jx (step := Gg (L, k)) L (fun i s => (s, i)) (fun a s => s = QE a) (fun r => r = QE L) (by omega)
    (fun a x c s e hs => .inr ⟨s ++ Ju x, by
      have hx := KJ (show x ∈ L by rw [e]; simp)
      have e2 : QE L = QE (a ++ [x]) ++ QE c := by rw [e]; unfold QE; simp
      have e3 : (QE (a ++ [x])).length ≤ (QE L).length := by rw [e2, List.length_append]; omega
      rw [all_snoc, List.length_append] at e3
      unfold Gg
      dsimp only
      rw [show Ja L (a.length : Int) = some x from by rw [e, QY], show decide ((a.length : Int) < (L.length : Int)) = true from by rw [e, Jd]]
      simp only [cond_true, Option.bind_some]
      rw [m18_eq x (by omega), Option.bind_some, hs, Jq (by omega)], by rw [hs, all_snoc]⟩)
    (fun s hs => ⟨s, by unfold Gg; dsimp only; rw [Jm]; rfl, hs⟩) [] rfl
  exact e
theorem RSays.code {β γ : Type} {d d' : Bool} {f : Dcl → List β} {f' : Dcl → List γ} {env : List Dcl} {nm : List U3} {r : List β × Int} {s : List γ × Int} (h1 : RSays d f env nm r) (h2 : RSays d' f' env nm s) :
    (r.1 = [] ∧ s.1 = [] ∧ r.2 ≠ 0 ∧ s.2 = r.2) ∨ ((QE env).Nodup ∧ JV env env ∧ (∀ s ∈ nm, s ∈ QE env) ∧ (∃ b, Least (U2 d (Yw env)) env.length (ZV env nm) b ∧ r = (((Ke b 0 env).map f).flatten, 0)) ∧ ∃ b, Least (U2 d' (Yw env)) env.length (ZV env nm) b ∧ s = (((Ke b 0 env).map f').flatten, 0)) := by
  cases h1 with
  | twice h => cases h2 <;> first | exact .inl ⟨rfl, rfl, show (8 : Int) ≠ 0 by decide, rfl⟩ | contradiction
  | none h h' => cases h2 <;> first | exact .inl ⟨rfl, rfl, show (9 : Int) ≠ 0 by decide, rfl⟩ | contradiction
  | miss h h' h'' => cases h2 <;> first | exact .inl ⟨rfl, rfl, show (9 : Int) ≠ 0 by decide, rfl⟩ | contradiction
  | ok h h' h'' b hb =>
    cases h2 with
    | twice g => contradiction
    | none g g' => contradiction
    | miss g g' g'' => contradiction
    | ok g g' g'' c hc => exact .inr ⟨h, h', h'', ⟨b, hb, rfl⟩, ⟨c, hc, rfl⟩⟩
theorem m5_true (env : List Dcl) (nm : List U3) (h : YY env ≤ 100000000) : Wu env nm = some true := by
  have hal := all_len env
  have hel := ZT env
  unfold Wu
  obtain ⟨b, hb, hb70⟩ := m9_some env (by omega)
  obtain ⟨c, hc, hc20⟩ := m10_some nm
  rw [hb, hc, m11_true]
  cases b with
  | false => rfl
  | true =>
    cases c with
    | false => rfl
    | true =>
      have h70 := hb70 rfl
      have h20 := hc20 rfl
      obtain ⟨r1, e1, h1⟩ := m15_eq env nm h (by omega)
      obtain ⟨r2, e2, h2⟩ := m12_eq env nm h (by omega) (by omega)
      rw [e1, e2]
      simp only [Option.bind_some, Bool.not_true, cond_false]
      rcases h1.code h2 with ⟨g1, g2, g3, g4⟩ | ⟨g1, g2, g3, ⟨p, hp, rfl⟩, q, hq, rfl⟩
      · rw [show (r1.2 != 0) = true from by simpa using g3, g4]
        simp only [cond_true, Option.bind_some, eq_selfI]
      · rw [Ku]
        dsimp only
        rw [show ((0 : Int) != 0) = false from rfl]
        simp only [cond_false, Option.bind_some]
        have hps := Gc p env 0
        have hqs := Gc q env 0
        have hz := sub_size hps
        rw [gather_eq _ _ (by omega), Option.bind_some]
        have hl1 := (sub_names hps).length_le
        have hl2 := (sub_names hqs).length_le
        unfold QE at hl1 hl2 hal
        obtain ⟨r3, e3, h3⟩ := m15_eq env (((Ke p 0 env).map Ju).flatten) h (by omega)
        obtain ⟨r4, e4, h4⟩ := m12_eq env (((Ke q 0 env).map Ju).flatten) h (by omega) (by omega)
        obtain ⟨r5, e5, h5⟩ := m15_eq (Ke p 0 env) nm (by omega) (by omega)
        rw [e3, e4, e5, again_eq g1 g2 hp h3, again_eq g1 g2 hq h4, again_sub g1 g2 g3 hp h5, Ku]
        simp only [Option.bind_some]
        rw [show ((0 : Int) == 0) = true from rfl, m17_sub hps h, m14_self _ (by omega)]
        rfl
end Go.Proofs.Ytijcchddnnnmdaa
namespace Go.Proofs.Ytijcchddnnnmdaa
open Go.RowKit Go.ChangeShapes Go.WideShapes
set_option linter.unusedSimpArgs false
set_option linter.unusedVariables false
set_option linter.unusedSectionVars false
def Xv (w : World) : Nat → Nat → Prop := fun b _ => b < w.heap.size
def RC (w : World) (e : List C) (cs : List Value) : Prop := cs.length = e.length ∧ ∀ (j : Nat) (c : C), e[j]? = some c → ∃ u, cs[j]? = some u ∧ Reads (Xv w) w c u
theorem RC.app {w : World} {e0 e1 : List C} {cs : List Value} (h0 : RC w e0 (cs.take e0.length)) (h1 : RC w e1 (cs.drop e0.length)) (hl : cs.length = e0.length + e1.length) : RC w (e0 ++ e1) cs := by
  refine ⟨by rw [hl, List.length_append], fun j c hj => ?_⟩
  rcases Nat.lt_or_ge j e0.length with h | h
  · rw [List.getElem?_append_left h] at hj
    obtain ⟨u, h2, h3⟩ := h0.2 j c hj
    rw [List.getElem?_take, if_pos h] at h2
    exact ⟨u, h2, h3⟩
  · rw [List.getElem?_append_right h] at hj
    obtain ⟨u, h2, h3⟩ := h1.2 _ c hj
    rw [List.getElem?_drop, show e0.length + (j - e0.length) = j by omega] at h2
    exact ⟨u, h2, h3⟩
section
variable {H : Type} (enc : TypeId × Value → H) (P : Program) (w : World)
end
section
variable {H : Type} {enc : TypeId × Value → H} {P : Program} {w : World}
end
end Go.Proofs.Ytijcchddnnnmdaa
namespace Go.Proofs.Ytijcchddnnnmdaa
open Go.RowKit Go.ChangeShapes Go.WideShapes
set_option linter.unusedSimpArgs false
set_option linter.unusedVariables false
set_option linter.unusedSectionVars false
theorem KF {H : Type} (d : DataW H) : 1 ≤ Rows.uptoBulk d := by
  cases d with
  | lit l => cases l <;> simp [Rows.uptoBulk]
  | nil => simp [Rows.uptoBulk]
  | ptr d => simp [Rows.uptoBulk]
  | slice elems spare => simp [Rows.uptoBulk]
  | agg parts => simp [Rows.uptoBulk]
  | iface t d => simp [Rows.uptoBulk]
  | map entries => simp [Rows.uptoBulk]
  | held h => simp [Rows.uptoBulk]
theorem bulk_all {H : Type} : ∀ l : List (DataW H), Rows.uptoBulkAll l = (l.map Rows.uptoBulk).sum
  | [] => by simp [Rows.uptoBulkAll]
  | x :: l => by simp only [Rows.uptoBulkAll, List.map_cons, List.sum_cons, bulk_all l]
theorem RC.nil {w : World} {cs : List Value} : RC w [] (cs.take 0) := ⟨by simp, fun j c h => by cases h⟩
theorem RC.snoc {w : World} {e0 e1 : List C} {cs : List Value} {m k : Nat} (h0 : RC w e0 (cs.take m)) (h1 : RC w e1 ((cs.drop m).take k)) (hm : e0.length = m) : RC w (e0 ++ e1) (cs.take (m + k)) := by
  have h2 := h0.1
  have h3 := h1.1
  refine RC.app ?_ ?_ ?_
  · rw [List.take_take, hm, Nat.min_eq_left (by omega)]; exact h0
  · rw [hm, List.drop_take, Nat.add_sub_cancel_left]; exact h1
  · rw [← h3, hm]
    simp only [List.length_take, List.length_drop] at h2 ⊢
    omega
section
variable {H : Type} (enc : TypeId × Value → H) (P : Program) (w : World)
def QV (N : Nat) (t : TypeId) (α : Type) [Enc α] (μ : α → Nat) : Prop := ∀ (fuel : Nat) (cs : List Value) (x : DataW H × List MemPlace), DataW.trod enc P w 0 (fun _ => true) true fuel t cs = some x → Rows.uptoBulk x.1 ≤ N → ∃ v : α, RC w (Enc.enc v) cs ∧ μ v ≤ Rows.uptoBulk x.1
end
section
variable {H : Type} {enc : TypeId × Value → H} {P : Program} {w : World} {N : Nat}
theorem Kp {t : TypeId} (ht : P.underlying t = some (.int .i64)) : QV enc P w N t Int (fun _ => 1) := by
  intro fuel cs x h hb
  obtain ⟨n, rfl, rfl, -⟩ := DataW.trod_int ht h
  refine ⟨n, ⟨rfl, fun j c hj => ?_⟩, KF _⟩
  cases j with
  | zero => cases hj; exact ⟨_, rfl, Reads.v _ rfl⟩
  | succ j => cases hj
theorem z_bool {t : TypeId} (ht : P.underlying t = some .bool) : QV enc P w N t Bool (fun _ => 1) := by
  intro fuel cs x h hb
  obtain ⟨n, rfl, rfl⟩ := DataW.trod_bool ht h
  refine ⟨n, ⟨rfl, fun j c hj => ?_⟩, KF _⟩
  cases j with
  | zero => cases hj; exact ⟨_, rfl, Reads.v _ rfl⟩
  | succ j => cases hj
theorem Xb {t : TypeId} (ht : P.underlying t = some .string) : QV enc P w N t U3 (fun s => 1 + s.length) := by
  intro fuel cs x h hb
  obtain ⟨s, rfl, rfl, -⟩ := DataW.trod_string ht h
  refine ⟨s.data.toList, ⟨rfl, fun j c hj => ?_⟩, by simp [Rows.uptoBulk]; omega⟩
  cases j with
  | zero => cases hj; exact ⟨_, rfl, by rw [show Wl s.data.toList = s from rfl]; exact Reads.v _ rfl⟩
  | succ j => cases hj
theorem Zq {α : Type} [Enc α] [EncLen α] {μ : α → Nat} {t e : TypeId} (ht : P.underlying t = some (.slice e)) (hc : P.cellsOf e = Enc.sz α) (ho : QV enc P w N e α μ) : QV enc P w N t (List α) (fun l => 1 + (l.map μ).sum) := by
  intro fuel cs x h hb
  rcases Deep.open_slice ht h with ⟨rfl, rfl⟩ | ⟨a, len, cap, m, n, D, Pl, rfl, -, hlc, -, hm, rfl, hel⟩
  · refine ⟨[], ⟨rfl, fun j c hj => ?_⟩, by simp [Rows.uptoBulk]⟩
    cases j with
    | zero =>
      cases hj
      refine ⟨_, rfl, ?_⟩
      rw [Enc.nil]
      exact .sl _ [] none 0 0 0 (fun _ _ => undef) (Nat.le_refl _) (fun h => absurd rfl h) (fun i e h => by simp at h) (fun i e j c h => by simp at h) (fun i e j c h => by simp at h) (fun i e j c h => by simp at h)
    | succ j => cases hj
  · have hm' : m = cap := by rw [hm]; rfl
    have hbk : ((List.range len).map fun i => Rows.uptoBulk (D i)).sum + 1 ≤ Rows.uptoBulk (DataW.slice (H := H) ((List.range len).map D) ((List.range (m - len)).map fun j => D (len + j))) := by
      simp only [Rows.uptoBulk, bulk_all, List.map_map]
      have : (List.map (Rows.uptoBulk ∘ D) (List.range len)).sum = ((List.range len).map fun i => Rows.uptoBulk (D i)).sum := rfl
      omega
    dsimp only at hb
    have hD : ∀ k, k < len → Rows.uptoBulk (D k) ≤ N := fun k hk => by
      have := YU (fun i => Rows.uptoBulk (D i)) (List.mem_range.2 hk)
      omega
    have hall : ∀ k, k ≤ len → ∃ l : List α, l.length = k ∧ (l.map μ).sum ≤ ((List.range k).map fun i => Rows.uptoBulk (D i)).sum ∧ ∀ (i : Nat) (v : α), l[i]? = some v → ∃ cs', w.cells? 0 (a.add (i * Enc.sz α)) (Enc.sz α) = some cs' ∧ RC w (Enc.enc v) cs' := by
      intro k
      induction k with
      | zero => intro _; exact ⟨[], rfl, Nat.le_refl _, fun i v h => by simp at h⟩
      | succ k ih =>
        intro hk
        obtain ⟨l, h1, hsum, h2⟩ := ih (by omega)
        obtain ⟨cs', h3, h4⟩ := hel k (by omega)
        rw [hc] at h3
        obtain ⟨v, hv, hμ⟩ := ho _ _ _ h4 (hD k (by omega))
        refine ⟨l ++ [v], by simp [h1], ?_, fun i v' hi => ?_⟩
        · rw [List.range_succ]
          simp only [List.map_append, List.map_cons, List.map_nil, List.sum_append, List.sum_cons, List.sum_nil]
          dsimp only at hμ
          omega
        rcases Nat.lt_or_ge i l.length with h | h
        · rw [List.getElem?_append_left h] at hi; exact h2 i v' hi
        · rw [List.getElem?_append_right h] at hi
          have hi0 : i - l.length = 0 := by
            rcases Nat.eq_zero_or_pos (i - l.length) with h0 | h0
            · exact h0
            · rw [List.getElem?_eq_none (by simp only [List.length_singleton]; omega)] at hi; cases hi
          have hik : i = k := by omega
          rw [hi0] at hi; cases hi
          rw [hik]; exact ⟨cs', h3, hv⟩
    obtain ⟨l, hl, hsum, hcells⟩ := hall len (Nat.le_refl _)
    have hpos : 0 < Enc.sz α := EncLen.pos
    have hspot : l ≠ [] → a.spot = none ∧ a.block < w.heap.size := by
      intro hne
      obtain ⟨v, r, rfl⟩ := List.exists_cons_of_ne_nil hne
      obtain ⟨cs', h1, h2⟩ := hcells 0 v rfl
      obtain ⟨-, h3, h4⟩ := World.cells?_some h1
      have h5 := h4 0 hpos
      rw [Nat.zero_mul, Deep.add_add, Nat.zero_add] at h5
      have h6 : (cs'[0]?).isSome := by rw [List.getElem?_eq_getElem (by omega)]; rfl
      rw [← h5] at h6
      have h7 : (a.add 0) = a := by simp [Addr.add]
      rw [h7] at h6
      unfold World.cell? at h6
      split at h6
      · rename_i c _ _ hb
        refine ⟨?_, (Array.getElem?_eq_some_iff.1 hb).1⟩
        split at h6
        · cases h6
        · rename_i hs
          cases hsp : a.spot with
          | none => rfl
          | some q => rw [hsp] at hs; exact absurd rfl hs
      · cases h6
    have hadd : l ≠ [] → ∀ k, a.add k = ⟨a.block, a.off + k, none⟩ := by
      intro hne k
      have h1 := (hspot hne).1
      unfold Addr.add
      split
      · rename_i h0; subst h0
        obtain ⟨b, o, sp⟩ := a
        simp only at h1; subst h1; rfl
      · rfl
    have hcell : ∀ (i : Nat) (e' : List C) (j : Nat) (c : C), (Enc.encL l)[i]? = some e' → e'[j]? = some c → ∃ u, w.cell? ⟨a.block, a.off + i * Enc.sz α + j, none⟩ = some u ∧ Reads (Xv w) w c u := by
      intro i e' j c hi hj
      rw [Enc.map, List.getElem?_map] at hi
      cases hx : l[i]? with
      | none => rw [hx] at hi; cases hi
      | some v =>
        rw [hx] at hi; cases hi
        have hne : l ≠ [] := by intro h0; rw [h0] at hx; simp at hx
        obtain ⟨cs', h1, h2⟩ := hcells i v hx
        obtain ⟨u, h3, h4⟩ := h2.2 j c hj
        obtain ⟨-, h5, h6⟩ := World.cells?_some h1
        have hjl : j < Enc.sz α := by have := (List.getElem?_eq_some_iff.1 h3).1; omega
        have h7 := h6 j hjl
        rw [Deep.add_add, hadd hne, h3, ← Nat.add_assoc] at h7
        exact ⟨u, h7, h4⟩
    refine ⟨l, ⟨rfl, fun j c hj => ?_⟩, by dsimp only; omega⟩
    cases j with
    | succ j => cases hj
    | zero =>
      cases hj
      refine ⟨_, rfl, ?_⟩
      have WD := Reads.sl (S := Xv w) (w := w) (Enc.sz α) (Enc.encL l) (some a) cap a.block a.off (fun i j => (w.cell? ⟨a.block, a.off + i * Enc.sz α + j, none⟩).getD undef) (by rw [Enc.len, hl]; exact hlc)
        (fun hne => by
          have hne' : l ≠ [] := by intro h0; rw [h0, Enc.nil] at hne; exact hne rfl
          have h7 : (a.add 0) = a := by simp [Addr.add]
          rw [← h7, hadd hne'])
        (fun i e' hi => Z8 l e' (List.mem_of_getElem? hi))
        (fun i e' j c hi hj => by obtain ⟨u, h1, -⟩ := hcell i e' j c hi hj; rw [h1]; rfl)
        (fun i e' j c hi hj => by
          have hne : l ≠ [] := by intro h0; rw [h0, Enc.nil] at hi; simp at hi
          exact (hspot hne).2)
        (fun i e' j c hi hj => by obtain ⟨u, h1, h2⟩ := hcell i e' j c hi hj; rw [h1]; exact h2)
      rw [Enc.len, hl] at WD
      exact WD
theorem GM {α : Type} [Enc α] {μ : α → Nat} {t : TypeId} (h : ∀ N, QV enc P w N t α μ → QV enc P w (N + 1) t α μ) : ∀ N, QV enc P w N t α μ
  | 0 => fun fuel cs x _ hb => by have := KF x.1; omega
  | N + 1 => h N (GM h N)
end
section
variable {H : Type} {enc : TypeId × Value → H} {w : World} {N : Nat}
theorem YK : Try.prog.cellsOf 3 = 1 := by kernel_rfl
theorem cells_4 : Try.prog.cellsOf 4 = 1 := by kernel_rfl
theorem Gp : Try.prog.cellsOf 9 = 1 := by kernel_rfl
theorem cells_39 : Try.prog.cellsOf 39 = 1 := by kernel_rfl
theorem cells_40 : Try.prog.cellsOf 40 = 1 := by kernel_rfl
theorem ZL : Try.prog.cellsOf 42 = 5 := by kernel_rfl
theorem cells_43 : Try.prog.cellsOf 43 = 1 := by kernel_rfl
theorem cells_45 : Try.prog.cellsOf 45 = 7 := by kernel_rfl
theorem cells_46 : Try.prog.cellsOf 46 = 1 := by kernel_rfl
theorem cells_48 : Try.prog.cellsOf 48 = 23 := by kernel_rfl
theorem cells_84 : Try.prog.cellsOf 84 = 6 := by kernel_rfl
theorem cells_85 : Try.prog.cellsOf 85 = 1 := by kernel_rfl
theorem cells_87 : Try.prog.cellsOf 87 = 8 := by kernel_rfl
theorem cells_89 : Try.prog.cellsOf 89 = 15 := by kernel_rfl
theorem cells_100 : Try.prog.cellsOf 100 = 1 := by kernel_rfl
theorem cells_102 : Try.prog.cellsOf 102 = 2 := by kernel_rfl
theorem cells_115 : Try.prog.cellsOf 115 = 10 := by kernel_rfl
theorem cells_149 : Try.prog.cellsOf 149 = 2 := by kernel_rfl
theorem z_lv : QV enc Try.prog w (N + 1) 149 U0 (fun _ => 1) := by
  intro fuel cs x h hb
  obtain ⟨xs, n, _, rfl, hl, hlen, hf⟩ := DataW.trod_struct Try.underlying149 h
  match xs, hlen with
  | [y0, y1], _ =>
    have hb' : Rows.uptoBulk y0.1 + Rows.uptoBulk y1.1 + 1 ≤ Rows.uptoBulk (DataW.agg (H := H) [y0.1, y1.1]) := by simp only [Rows.uptoBulk, Rows.uptoBulkAll]; omega
    have hb2 : Rows.uptoBulk (DataW.agg (H := H) [y0.1, y1.1]) ≤ N + 1 := hb
    obtain ⟨v0, r0, m0⟩ := (Kp Try.underlying3 : QV enc Try.prog w N _ _ _) n _ _ (hf 0 _ rfl) (by omega)
    change RC w (Enc.enc v0) ((cs.drop 0).take (Try.prog.cellsOf 3)) at r0
    rw [YK] at r0
    obtain ⟨v1, r1, m1⟩ := (Kp Try.underlying3 : QV enc Try.prog w N _ _ _) n _ _ (hf 1 _ rfl) (by omega)
    change RC w (Enc.enc v1) ((cs.drop 1).take (Try.prog.cellsOf 3)) at r1
    rw [YK] at r1
    have hcs : cs.take 2 = cs := List.take_of_length_le (by rw [hl]; exact Nat.le_of_eq cells_149)
    have WD := ((((RC.nil).snoc (k := 1) r0 rfl)).snoc (k := 1) r1 rfl)
    refine ⟨(v0, v1), by rw [← hcs]; exact WD, Nat.le_trans ?_ hb'⟩
    show 1 ≤ _
    omega
theorem z_lv' : QV enc Try.prog w N 149 U0 (fun _ => 1) := GM (fun _ _ => z_lv) N
theorem z_lvl : QV enc Try.prog w (N + 1) 102 Lvl lvz := by
  intro fuel cs x h hb
  obtain ⟨xs, n, _, rfl, hl, hlen, hf⟩ := DataW.trod_struct Try.underlying102 h
  match xs, hlen with
  | [y0, y1], _ =>
    have hb' : Rows.uptoBulk y0.1 + Rows.uptoBulk y1.1 + 1 ≤ Rows.uptoBulk (DataW.agg (H := H) [y0.1, y1.1]) := by simp only [Rows.uptoBulk, Rows.uptoBulkAll]; omega
    have hb2 : Rows.uptoBulk (DataW.agg (H := H) [y0.1, y1.1]) ≤ N + 1 := hb
    obtain ⟨v0, r0, m0⟩ := (Kp Try.underlying3 : QV enc Try.prog w N _ _ _) n _ _ (hf 0 _ rfl) (by omega)
    change RC w (Enc.enc v0) ((cs.drop 0).take (Try.prog.cellsOf 3)) at r0
    rw [YK] at r0
    obtain ⟨v1, r1, m1⟩ := (Zq Try.underlying100 (by kernel_rfl) z_lv' : QV enc Try.prog w N _ _ _) n _ _ (hf 1 _ rfl) (by omega)
    change RC w (Enc.enc v1) ((cs.drop 1).take (Try.prog.cellsOf 100)) at r1
    rw [cells_100] at r1
    have hcs : cs.take 2 = cs := List.take_of_length_le (by rw [hl]; exact Nat.le_of_eq cells_102)
    have WD := ((((RC.nil).snoc (k := 1) r0 rfl)).snoc (k := 1) r1 rfl)
    refine ⟨⟨v0, v1⟩, by rw [← hcs]; exact WD, Nat.le_trans ?_ hb'⟩
    show lvz ⟨v0, v1⟩ ≤ _
    unfold lvz
    dsimp only at m0 m1 ⊢
    omega
theorem z_lvl' : QV enc Try.prog w N 102 Lvl lvz := GM (fun _ _ => z_lvl) N
theorem z_tm (hk : QV enc Try.prog w N 42 Tm Tm.size) : QV enc Try.prog w (N + 1) 42 Tm Tm.size := by
  intro fuel cs x h hb
  obtain ⟨xs, n, _, rfl, hl, hlen, hf⟩ := DataW.trod_struct Try.underlying42 h
  match xs, hlen with
  | [y0, y1, y2, y3, y4], _ =>
    have hb' : Rows.uptoBulk y0.1 + Rows.uptoBulk y1.1 + Rows.uptoBulk y2.1 + Rows.uptoBulk y3.1 + Rows.uptoBulk y4.1 + 1 ≤ Rows.uptoBulk (DataW.agg (H := H) [y0.1, y1.1, y2.1, y3.1, y4.1]) := by simp only [Rows.uptoBulk, Rows.uptoBulkAll]; omega
    have hb2 : Rows.uptoBulk (DataW.agg (H := H) [y0.1, y1.1, y2.1, y3.1, y4.1]) ≤ N + 1 := hb
    obtain ⟨v0, r0, m0⟩ := (Kp Try.underlying3 : QV enc Try.prog w N _ _ _) n _ _ (hf 0 _ rfl) (by omega)
    change RC w (Enc.enc v0) ((cs.drop 0).take (Try.prog.cellsOf 3)) at r0
    rw [YK] at r0
    obtain ⟨v1, r1, m1⟩ := (Kp Try.underlying3 : QV enc Try.prog w N _ _ _) n _ _ (hf 1 _ rfl) (by omega)
    change RC w (Enc.enc v1) ((cs.drop 1).take (Try.prog.cellsOf 3)) at r1
    rw [YK] at r1
    obtain ⟨v2, r2, m2⟩ := (Xb Try.underlying9 : QV enc Try.prog w N _ _ _) n _ _ (hf 2 _ rfl) (by omega)
    change RC w (Enc.enc v2) ((cs.drop 2).take (Try.prog.cellsOf 9)) at r2
    rw [Gp] at r2
    obtain ⟨v3, r3, Wv⟩ := (Zq Try.underlying39 (by kernel_rfl) z_lvl' : QV enc Try.prog w N _ _ _) n _ _ (hf 3 _ rfl) (by omega)
    change RC w (Enc.enc v3) ((cs.drop 3).take (Try.prog.cellsOf 39)) at r3
    rw [cells_39] at r3
    obtain ⟨v4, r4, m4⟩ := (Zq Try.underlying40 (by kernel_rfl) hk : QV enc Try.prog w N _ _ _) n _ _ (hf 4 _ rfl) (by omega)
    change RC w (Enc.enc v4) ((cs.drop 4).take (Try.prog.cellsOf 40)) at r4
    rw [cells_40] at r4
    have hcs : cs.take 5 = cs := List.take_of_length_le (by rw [hl]; exact Nat.le_of_eq ZL)
    have WD := ((((((((((RC.nil).snoc (k := 1) r0 rfl)).snoc (k := 1) r1 rfl)).snoc (k := 1) r2 rfl)).snoc (k := 1) r3 rfl)).snoc (k := 1) r4 rfl)
    refine ⟨Tm.mk v0 v1 v2 v3 v4, by rw [← hcs]; exact WD, Nat.le_trans ?_ hb'⟩
    rw [Tm.size_eq]
    simp only [Tm.name, Tm.kids, Tm.levels]
    dsimp only at m0 m1 m2 Wv m4 ⊢
    omega
theorem GO : QV enc Try.prog w N 42 Tm Tm.size := GM (fun _ h => z_tm h) N
theorem z_ctr : QV enc Try.prog w (N + 1) 84 Ctr csz := by
  intro fuel cs x h hb
  obtain ⟨xs, n, _, rfl, hl, hlen, hf⟩ := DataW.trod_struct Try.underlying84 h
  match xs, hlen with
  | [y0, y1], _ =>
    have hb' : Rows.uptoBulk y0.1 + Rows.uptoBulk y1.1 + 1 ≤ Rows.uptoBulk (DataW.agg (H := H) [y0.1, y1.1]) := by simp only [Rows.uptoBulk, Rows.uptoBulkAll]; omega
    have hb2 : Rows.uptoBulk (DataW.agg (H := H) [y0.1, y1.1]) ≤ N + 1 := hb
    obtain ⟨v0, r0, m0⟩ := (Xb Try.underlying9 : QV enc Try.prog w N _ _ _) n _ _ (hf 0 _ rfl) (by omega)
    change RC w (Enc.enc v0) ((cs.drop 0).take (Try.prog.cellsOf 9)) at r0
    rw [Gp] at r0
    obtain ⟨v1, r1, m1⟩ := (GO : QV enc Try.prog w N _ _ _) n _ _ (hf 1 _ rfl) (by omega)
    change RC w (Enc.enc v1) ((cs.drop 1).take (Try.prog.cellsOf 42)) at r1
    rw [ZL] at r1
    have hcs : cs.take 6 = cs := List.take_of_length_le (by rw [hl]; exact Nat.le_of_eq cells_84)
    have WD := ((((RC.nil).snoc (k := 1) r0 rfl)).snoc (k := 5) r1 rfl)
    refine ⟨⟨v0, v1⟩, by rw [← hcs]; exact WD, Nat.le_trans ?_ hb'⟩
    show csz ⟨v0, v1⟩ ≤ _
    unfold csz
    dsimp only at m0 m1 ⊢
    omega
theorem z_ctr' : QV enc Try.prog w N 84 Ctr csz := GM (fun _ _ => z_ctr) N
theorem z_rcr : QV enc Try.prog w (N + 1) 45 Rcr (fun r => r.ty.size + (r.rules.map Tm.size).sum) := by
  intro fuel cs x h hb
  obtain ⟨xs, n, _, rfl, hl, hlen, hf⟩ := DataW.trod_struct Try.underlying45 h
  match xs, hlen with
  | [y0, y1, y2], _ =>
    have hb' : Rows.uptoBulk y0.1 + Rows.uptoBulk y1.1 + Rows.uptoBulk y2.1 + 1 ≤ Rows.uptoBulk (DataW.agg (H := H) [y0.1, y1.1, y2.1]) := by simp only [Rows.uptoBulk, Rows.uptoBulkAll]; omega
    have hb2 : Rows.uptoBulk (DataW.agg (H := H) [y0.1, y1.1, y2.1]) ≤ N + 1 := hb
    obtain ⟨v0, r0, m0⟩ := (Kp Try.underlying3 : QV enc Try.prog w N _ _ _) n _ _ (hf 0 _ rfl) (by omega)
    change RC w (Enc.enc v0) ((cs.drop 0).take (Try.prog.cellsOf 3)) at r0
    rw [YK] at r0
    obtain ⟨v1, r1, m1⟩ := (GO : QV enc Try.prog w N _ _ _) n _ _ (hf 1 _ rfl) (by omega)
    change RC w (Enc.enc v1) ((cs.drop 1).take (Try.prog.cellsOf 42)) at r1
    rw [ZL] at r1
    obtain ⟨v2, r2, m2⟩ := (Zq Try.underlying40 (by kernel_rfl) GO : QV enc Try.prog w N _ _ _) n _ _ (hf 2 _ rfl) (by omega)
    change RC w (Enc.enc v2) ((cs.drop 6).take (Try.prog.cellsOf 40)) at r2
    rw [cells_40] at r2
    have hcs : cs.take 7 = cs := List.take_of_length_le (by rw [hl]; exact Nat.le_of_eq cells_45)
    have WD := ((((((RC.nil).snoc (k := 1) r0 rfl)).snoc (k := 5) r1 rfl)).snoc (k := 1) r2 rfl)
    refine ⟨⟨v0, v1, v2⟩, by rw [← hcs]; exact WD, Nat.le_trans ?_ hb'⟩
    dsimp only at m0 m1 m2 ⊢
    omega
theorem z_rcr' : QV enc Try.prog w N 45 Rcr (fun r => r.ty.size + (r.rules.map Tm.size).sum) := GM (fun _ _ => z_rcr) N
theorem z_tr (hk : QV enc Try.prog w N 115 U4 bsz) : QV enc Try.prog w (N + 1) 87 Tr Tr.size := by
  intro fuel cs x h hb
  obtain ⟨xs, n, _, rfl, hl, hlen, hf⟩ := DataW.trod_struct Try.underlying87 h
  match xs, hlen with
  | [y0, y1, y2, y3], _ =>
    have hb' : Rows.uptoBulk y0.1 + Rows.uptoBulk y1.1 + Rows.uptoBulk y2.1 + Rows.uptoBulk y3.1 + 1 ≤ Rows.uptoBulk (DataW.agg (H := H) [y0.1, y1.1, y2.1, y3.1]) := by simp only [Rows.uptoBulk, Rows.uptoBulkAll]; omega
    have hb2 : Rows.uptoBulk (DataW.agg (H := H) [y0.1, y1.1, y2.1, y3.1]) ≤ N + 1 := hb
    obtain ⟨v0, r0, m0⟩ := (Kp Try.underlying3 : QV enc Try.prog w N _ _ _) n _ _ (hf 0 _ rfl) (by omega)
    change RC w (Enc.enc v0) ((cs.drop 0).take (Try.prog.cellsOf 3)) at r0
    rw [YK] at r0
    obtain ⟨v1, r1, m1⟩ := (GO : QV enc Try.prog w N _ _ _) n _ _ (hf 1 _ rfl) (by omega)
    change RC w (Enc.enc v1) ((cs.drop 1).take (Try.prog.cellsOf 42)) at r1
    rw [ZL] at r1
    obtain ⟨v2, r2, m2⟩ := (Kp Try.underlying3 : QV enc Try.prog w N _ _ _) n _ _ (hf 2 _ rfl) (by omega)
    change RC w (Enc.enc v2) ((cs.drop 6).take (Try.prog.cellsOf 3)) at r2
    rw [YK] at r2
    obtain ⟨v3, r3, Wv⟩ := (Zq Try.underlying85 (by kernel_rfl) hk : QV enc Try.prog w N _ _ _) n _ _ (hf 3 _ rfl) (by omega)
    change RC w (Enc.enc v3) ((cs.drop 7).take (Try.prog.cellsOf 85)) at r3
    rw [cells_85] at r3
    have hcs : cs.take 8 = cs := List.take_of_length_le (by rw [hl]; exact Nat.le_of_eq cells_87)
    have WD := ((((((((RC.nil).snoc (k := 1) r0 rfl)).snoc (k := 5) r1 rfl)).snoc (k := 1) r2 rfl)).snoc (k := 1) r3 rfl)
    refine ⟨Tr.mk v0 v1 v2 v3, by rw [← hcs]; exact WD, Nat.le_trans ?_ hb'⟩
    rw [Tr.size_eq]
    simp only [Tr.body, Tr.branches]
    dsimp only at m0 m1 m2 Wv ⊢
    omega
theorem z_br (hk : QV enc Try.prog w N 87 Tr Tr.size) : QV enc Try.prog w (N + 1) 115 U4 bsz := by
  intro fuel cs x h hb
  obtain ⟨xs, n, _, rfl, hl, hlen, hf⟩ := DataW.trod_struct Try.underlying115 h
  match xs, hlen with
  | [y0, y1, y2], _ =>
    have hb' : Rows.uptoBulk y0.1 + Rows.uptoBulk y1.1 + Rows.uptoBulk y2.1 + 1 ≤ Rows.uptoBulk (DataW.agg (H := H) [y0.1, y1.1, y2.1]) := by simp only [Rows.uptoBulk, Rows.uptoBulkAll]; omega
    have hb2 : Rows.uptoBulk (DataW.agg (H := H) [y0.1, y1.1, y2.1]) ≤ N + 1 := hb
    obtain ⟨v0, r0, m0⟩ := (Xb Try.underlying9 : QV enc Try.prog w N _ _ _) n _ _ (hf 0 _ rfl) (by omega)
    change RC w (Enc.enc v0) ((cs.drop 0).take (Try.prog.cellsOf 9)) at r0
    rw [Gp] at r0
    obtain ⟨v1, r1, m1⟩ := (z_bool Try.underlying4 : QV enc Try.prog w N _ _ _) n _ _ (hf 1 _ rfl) (by omega)
    change RC w (Enc.enc v1) ((cs.drop 1).take (Try.prog.cellsOf 4)) at r1
    rw [cells_4] at r1
    obtain ⟨v2, r2, m2⟩ := hk n _ _ (hf 2 _ rfl) (by omega)
    change RC w (Enc.enc v2) ((cs.drop 2).take (Try.prog.cellsOf 87)) at r2
    rw [cells_87] at r2
    have hcs : cs.take 10 = cs := List.take_of_length_le (by rw [hl]; exact Nat.le_of_eq cells_115)
    have WD := ((((((RC.nil).snoc (k := 1) r0 rfl)).snoc (k := 1) r1 rfl)).snoc (k := 8) r2 rfl)
    refine ⟨⟨v0, v1, v2⟩, by rw [← hcs]; exact WD, Nat.le_trans ?_ hb'⟩
    show bsz ⟨v0, v1, v2⟩ ≤ _
    unfold bsz
    dsimp only at m0 m1 m2 ⊢
    omega
theorem z_trbr : ∀ N, QV enc Try.prog w N 87 Tr Tr.size ∧ QV enc Try.prog w N 115 U4 bsz
  | 0 => ⟨fun fuel cs x _ hb => by have := KF x.1; omega, fun fuel cs x _ hb => by have := KF x.1; omega⟩
  | N + 1 => ⟨z_tr (z_trbr N).2, z_br (z_trbr N).1⟩
theorem z_fn : QV enc Try.prog w (N + 1) 89 Fn fsz := by
  intro fuel cs x h hb
  obtain ⟨xs, n, _, rfl, hl, hlen, hf⟩ := DataW.trod_struct Try.underlying89 h
  match xs, hlen with
  | [y0, y1, y2, y3], _ =>
    have hb' : Rows.uptoBulk y0.1 + Rows.uptoBulk y1.1 + Rows.uptoBulk y2.1 + Rows.uptoBulk y3.1 + 1 ≤ Rows.uptoBulk (DataW.agg (H := H) [y0.1, y1.1, y2.1, y3.1]) := by simp only [Rows.uptoBulk, Rows.uptoBulkAll]; omega
    have hb2 : Rows.uptoBulk (DataW.agg (H := H) [y0.1, y1.1, y2.1, y3.1]) ≤ N + 1 := hb
    obtain ⟨v0, r0, m0⟩ := (Xb Try.underlying9 : QV enc Try.prog w N _ _ _) n _ _ (hf 0 _ rfl) (by omega)
    change RC w (Enc.enc v0) ((cs.drop 0).take (Try.prog.cellsOf 9)) at r0
    rw [Gp] at r0
    obtain ⟨v1, r1, m1⟩ := (GO : QV enc Try.prog w N _ _ _) n _ _ (hf 1 _ rfl) (by omega)
    change RC w (Enc.enc v1) ((cs.drop 1).take (Try.prog.cellsOf 42)) at r1
    rw [ZL] at r1
    obtain ⟨v2, r2, m2⟩ := (Kp Try.underlying3 : QV enc Try.prog w N _ _ _) n _ _ (hf 2 _ rfl) (by omega)
    change RC w (Enc.enc v2) ((cs.drop 6).take (Try.prog.cellsOf 3)) at r2
    rw [YK] at r2
    obtain ⟨v3, r3, Wv⟩ := (z_trbr N).1 n _ _ (hf 3 _ rfl) (by omega)
    change RC w (Enc.enc v3) ((cs.drop 7).take (Try.prog.cellsOf 87)) at r3
    rw [cells_87] at r3
    have hcs : cs.take 15 = cs := List.take_of_length_le (by rw [hl]; exact Nat.le_of_eq cells_89)
    have WD := ((((((((RC.nil).snoc (k := 1) r0 rfl)).snoc (k := 5) r1 rfl)).snoc (k := 1) r2 rfl)).snoc (k := 8) r3 rfl)
    refine ⟨⟨v0, v1, v2, v3⟩, by rw [← hcs]; exact WD, Nat.le_trans ?_ hb'⟩
    show fsz ⟨v0, v1, v2, v3⟩ ≤ _
    unfold fsz
    dsimp only at m0 m1 m2 Wv ⊢
    omega
theorem z_fn' : QV enc Try.prog w N 89 Fn fsz := GM (fun _ _ => z_fn) N
theorem z_dcl : QV enc Try.prog w (N + 1) 48 Dcl Dcl.size := by
  intro fuel cs x h hb
  obtain ⟨xs, n, _, rfl, hl, hlen, hf⟩ := DataW.trod_struct Try.underlying48 h
  match xs, hlen with
  | [y0, y1, y2, y3, y4, y5, y6, y7, y8], _ =>
    have hb' : Rows.uptoBulk y0.1 + Rows.uptoBulk y1.1 + Rows.uptoBulk y2.1 + Rows.uptoBulk y3.1 + Rows.uptoBulk y4.1 + Rows.uptoBulk y5.1 + Rows.uptoBulk y6.1 + Rows.uptoBulk y7.1 + Rows.uptoBulk y8.1 + 1 ≤ Rows.uptoBulk (DataW.agg (H := H) [y0.1, y1.1, y2.1, y3.1, y4.1, y5.1, y6.1, y7.1, y8.1]) := by simp only [Rows.uptoBulk, Rows.uptoBulkAll]; omega
    have hb2 : Rows.uptoBulk (DataW.agg (H := H) [y0.1, y1.1, y2.1, y3.1, y4.1, y5.1, y6.1, y7.1, y8.1]) ≤ N + 1 := hb
    obtain ⟨v0, r0, m0⟩ := (Kp Try.underlying3 : QV enc Try.prog w N _ _ _) n _ _ (hf 0 _ rfl) (by omega)
    change RC w (Enc.enc v0) ((cs.drop 0).take (Try.prog.cellsOf 3)) at r0
    rw [YK] at r0
    obtain ⟨v1, r1, m1⟩ := (Xb Try.underlying9 : QV enc Try.prog w N _ _ _) n _ _ (hf 1 _ rfl) (by omega)
    change RC w (Enc.enc v1) ((cs.drop 1).take (Try.prog.cellsOf 9)) at r1
    rw [Gp] at r1
    obtain ⟨v2, r2, m2⟩ := (Kp Try.underlying3 : QV enc Try.prog w N _ _ _) n _ _ (hf 2 _ rfl) (by omega)
    change RC w (Enc.enc v2) ((cs.drop 2).take (Try.prog.cellsOf 3)) at r2
    rw [YK] at r2
    obtain ⟨v3, r3, Wv⟩ := (GO : QV enc Try.prog w N _ _ _) n _ _ (hf 3 _ rfl) (by omega)
    change RC w (Enc.enc v3) ((cs.drop 3).take (Try.prog.cellsOf 42)) at r3
    rw [ZL] at r3
    obtain ⟨v4, r4, m4⟩ := (GO : QV enc Try.prog w N _ _ _) n _ _ (hf 4 _ rfl) (by omega)
    change RC w (Enc.enc v4) ((cs.drop 8).take (Try.prog.cellsOf 42)) at r4
    rw [ZL] at r4
    obtain ⟨v5, r5, Wu⟩ := (Kp Try.underlying3 : QV enc Try.prog w N _ _ _) n _ _ (hf 5 _ rfl) (by omega)
    change RC w (Enc.enc v5) ((cs.drop 13).take (Try.prog.cellsOf 3)) at r5
    rw [YK] at r5
    obtain ⟨v6, r6, m6⟩ := (Zq Try.underlying43 (by kernel_rfl) z_ctr' : QV enc Try.prog w N _ _ _) n _ _ (hf 6 _ rfl) (by omega)
    change RC w (Enc.enc v6) ((cs.drop 14).take (Try.prog.cellsOf 43)) at r6
    rw [cells_43] at r6
    obtain ⟨v7, r7, m7⟩ := (z_rcr' : QV enc Try.prog w N _ _ _) n _ _ (hf 7 _ rfl) (by omega)
    change RC w (Enc.enc v7) ((cs.drop 15).take (Try.prog.cellsOf 45)) at r7
    rw [cells_45] at r7
    obtain ⟨v8, r8, m8⟩ := (Zq Try.underlying46 (by kernel_rfl) z_fn' : QV enc Try.prog w N _ _ _) n _ _ (hf 8 _ rfl) (by omega)
    change RC w (Enc.enc v8) ((cs.drop 22).take (Try.prog.cellsOf 46)) at r8
    rw [cells_46] at r8
    have hcs : cs.take 23 = cs := List.take_of_length_le (by rw [hl]; exact Nat.le_of_eq cells_48)
    have WD := ((((((((((((((((((RC.nil).snoc (k := 1) r0 rfl)).snoc (k := 1) r1 rfl)).snoc (k := 1) r2 rfl)).snoc (k := 5) r3 rfl)).snoc (k := 5) r4 rfl)).snoc (k := 1) r5 rfl)).snoc (k := 1) r6 rfl)).snoc (k := 7) r7 rfl)).snoc (k := 1) r8 rfl)
    refine ⟨⟨v0, v1, v2, v3, v4, v5, v6, v7, v8⟩, by rw [← hcs]; exact WD, Nat.le_trans ?_ hb'⟩
    show Dcl.size ⟨v0, v1, v2, v3, v4, v5, v6, v7, v8⟩ ≤ _
    unfold Dcl.size
    dsimp only at m0 m1 m2 Wv m4 Wu m6 m7 m8 ⊢
    omega
theorem z_dcl' : QV enc Try.prog w N 48 Dcl Dcl.size := GM (fun _ _ => z_dcl) N
theorem z_env : QV enc Try.prog w N 22 (List Dcl) (fun l => 1 + YY l) := Zq Try.underlying22 (by kernel_rfl) z_dcl'
theorem z_names : QV enc Try.prog w N 23 (List U3) (fun l => 1 + (l.map fun s => 1 + s.length).sum) := Zq Try.underlying23 (by kernel_rfl) (Xb Try.underlying9)
end
end Go.Proofs.Ytijcchddnnnmdaa
namespace Go.Proofs.Ytijcchddnnnmdaa
open Go.ChangeShapes Go.WideShapes Go.ChangeAt Go.RowKit Go.WideElems
set_option linter.unusedSimpArgs false
set_option linter.unusedVariables false
set_option linter.unusedSectionVars false
theorem own : ownKnob Try.prog.godebug = none := by kernel_rfl
theorem laidOut : laidOutB Try.prog = true := by kernel_rfl
set_option maxRecDepth 100000 in
theorem slice_readsZ {H : Type} {enc : TypeId × Value → H} {α : Type} [Enc α] [EncLen α] {μ : List α → Nat} {W : World} {base : Nat} {t e : TypeId} {v : Value} {d : DataW H} {p : List MemPlace} (ht : Try.prog.underlying t = some (.slice e)) (ho : ∀ N, QV enc Try.prog W N t (List α) μ)
    (hval : Value.okWide Try.prog W .any base t v) (h : DataW.Trod enc Try.prog W 0 (fun _ => true) true t v d p) : ∃ l : List α, Reads (Xv W) W (.sl (Enc.sz α) (Enc.encL l)) v ∧ μ l ≤ Rows.uptoBulk d := by
  obtain ⟨fuel, hf⟩ := h
  obtain ⟨l, hl, hμ⟩ := ho _ _ _ _ hf (Nat.le_refl _)
  refine ⟨l, ?_, hμ⟩
  obtain ⟨u, h2, h3⟩ := hl.2 0 _ rfl
  have h4 : v.cells = #[v] := by
    have h5 := hl.1
    cases v with
    | agg cs =>
      exfalso
      obtain ⟨s, n, c, h7⟩ := okWide_slice ht hval
      cases h7
    | _ => rfl
  rw [h4] at h2
  cases h2
  exact h3
end Go.Proofs.Ytijcchddnnnmdaa
namespace Go.Proofs.Ytijcchddnnnmdaa
open Go.ChangeShapes Go.WideShapes Go.ChangeAt Go.RowKit Go.WideElems
set_option linter.unusedSimpArgs false
set_option linter.unusedVariables false
set_option linter.unusedSectionVars false
theorem law5 {W : World} (a0 : List Dcl) (a1 : List U3) (hs : YY a0 ≤ 100000000) {v0 v1 : Value} (hv0 : Reads (Xv W) W (.sl 23 (Enc.encL a0)) v0) (hv1 : Reads (Xv W) W (.sl 1 (Enc.encL a1)) v1) : Calls Try.prog 5 #[v0, v1] W fun e W' => e = .returned (.bool true) ∧ Below W.heap.size W W' := by
  have hF := m5_ok a0 a1 true (m5_true a0 a1 hs)
  refine Calls.mono (hF.2 (Xv W) W #[v0, v1] (fun b o h => h) ⟨rfl, fun i y hy => ?_⟩) ?_
  · match i, hy with
    | 0, hy => cases hy; exact ⟨_, rfl, hv0⟩
    | 1, hy => cases hy; exact ⟨_, rfl, hv1⟩
  · rintro e W' ⟨u, S', rfl, hx, -, -, hu⟩
    have e1 : u = .bool true := by cases hu; rfl
    rw [e1]
    exact ⟨rfl, hx.os, hx.tape, hx.output, hx.size, fun k hk => hx.block k hk (fun h => h)⟩
set_option maxRecDepth 100000 in
theorem contract (H : Type) (enc : TypeId × Value → H) (W : World) (base : Nat) (args : Array Value) (ds gs : List (DataW H)) (before : List MemPlace) (hk : Rows.uptoSmall H (ds ++ gs) = true)
    (hval0 : ∀ (j : Nat) t v, Try.f5.params[j]? = some t → args[j]? = some v → Value.okWide Try.prog W .any base t v)
    (hW : DataW.Whole enc Try.prog Try.f5.params.toList Rows.dependRepeatsSpec.vars false W args.toList ds gs before) :
    Calls Try.prog 5 args W fun e W' => ∃ v, e = .returned v ∧ Rows.dependRepeatsSpec.post enc Try.prog Try.f5 false true false false W args v W' := by
  have hval : ∀ (j : Nat) t v, Try.f5.params[j]? = some t → args[j]? = some v → Value.okWide Try.prog W .any base t v := hval0
  have hW' := hW
  obtain ⟨p, q, hA0, hV, rfl, hfz, hnd⟩ := hW
  have hA : DataW.TrodAll enc Try.prog W 0 (fun _ => true) true Try.f5.params.toList args.toList ds p := hA0
  rw [Try.params5] at hA hval
  obtain ⟨v0, v1, d0, d1, p0, p1, rfl, rfl, rfl, h0, h1⟩ := trodAll_two hA
  obtain ⟨rfl, rfl⟩ := trodVars_none hV
  have h0k := h0
  have h1k := h1
  obtain ⟨a0, hv0, hz⟩ := slice_readsZ Try.underlying22 (fun N => z_env) (hval 0 22 v0 rfl rfl) h0
  obtain ⟨a1, hv1, hz1⟩ := slice_readsZ Try.underlying23 (fun N => z_names) (hval 1 23 v1 rfl rfl) h1
  have hbk : Rows.uptoBulkAll ([d0, d1] ++ ([] : List (DataW H))) ≤ 1048576 := of_decide_eq_true hk
  simp only [List.append_nil, Rows.uptoBulkAll] at hbk
  clear hA0 hval0
  simp only [List.append_nil] at hW'
  have hlt : ∀ x ∈ p0 ++ p1, x.block < W.heap.size := fun x hx => by simpa using hW'.lt x hx
  refine (law5 a0 a1 (by omega) hv0 hv1).mono fun e W' ⟨he, hb⟩ => ?_
  subst he
  have hargs : ∀ sp : Nat → Bool, (∀ x ∈ p0 ++ p1, sp x.block = true) → DataW.TrodAll enc Try.prog W' 0 sp true [22, 23] [v0, v1] [d0, d1] (p0 ++ p1) := fun sp hsp =>
    trodAll_mk2 (WideElems.Trod_stays laidOut (by kernel_rfl) (of_decide_eq_true (by kernel_rfl)) h0k (fun x hx => hb.same (hlt x (by simp [hx]))) (fun x hx => hsp x (by simp [hx]))) (WideElems.Trod_stays laidOut (by kernel_rfl) (of_decide_eq_true (by kernel_rfl)) h1k (fun x hx => hb.same (hlt x (by simp [hx]))) (fun x hx => hsp x (by simp [hx])))
  exact ⟨_, rfl, _, _, _, [], p0 ++ p1, [], hW', trodAll_mk1 (shut_bool Try.underlying4 true), hargs _ (fun x hx => by simpa using hlt x hx), rfl, hb.frame _, fun h => by cases h⟩
set_option maxRecDepth 100000 in
theorem lifted (os : Os) (started : os.Started) (H : Type) (enc : TypeId × Value → H) (F : Stop.Interp) :
    ReturnsInHanded {} Try.checked os 5 .any ((Rows.OpenSpec.upto Rows.dependRepeatsSpec).pre6 enc Try.prog Try.f5 Rows.dependRepeatsUptoRow.domain false) (((Rows.OpenSpec.upto Rows.dependRepeatsSpec).at F).post enc Try.prog Try.f5 false true false false) := by
  refine returnsInHanded_of_cond (C := Try.checked) (s := Rows.OpenSpec.upto Rows.dependRepeatsSpec) (k := Rows.uptoSmall) rfl own started (by kernel_rfl) Try.func5
    (OpenSpec.witness (enc := enc) (C := Try.checked) (s := Rows.OpenSpec.upto Rows.dependRepeatsSpec) (k := Rows.uptoSmall) rfl false ⟨#[], #[.slice none 0 0, .slice none 0 0], []⟩ 8 (by kernel_rfl) (by kernel_rfl) (by kernel_rfl)
      (x := ([.nil, .nil], [], [])) (by kernel_rfl) rfl (by kernel_rfl)) ?_
  intro W base args ds gs before hval hW _ hk _
  exact contract H enc W base args ds gs before hk hval hW
theorem over : Rows.dependRepeatsUptoRow.holds Try.pinned (Rows.OpenSpec.upto Rows.dependRepeatsSpec) :=
  OpenClaim.holds_of_cond 5 Try.f5 rfl rfl rfl rfl rfl rfl rfl ⟨rfl, rfl, rfl, rfl, rfl⟩ rfl rfl rfl rfl rfl (by kernel_rfl) Try.func5 (by kernel_rfl)
    (of_decide_eq_true (by kernel_rfl)) (by unfold Func.isWrapper; first | (rw [if_pos (by decide +kernel)]; kernel_rfl) | (rw [if_neg (by decide +kernel)]; exact ⟨rfl, rfl⟩))
    (fun os started H enc _ F => lifted os started H enc F)
theorem dependRepeatsUpto : Rows.DependRepeatsUptoSaid := over
#print axioms dependRepeatsUpto
end Go.Proofs.Ytijcchddnnnmdaa
