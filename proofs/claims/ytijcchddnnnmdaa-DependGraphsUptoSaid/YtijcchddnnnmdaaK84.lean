/- Part 4 of the proof: rules, mirrors and plain laws. The statement DependGraphsUpto is proved here: for every list of declarations the law returns true, and the list reads behind the call as it did before; condition: the list is of bulk at most 1048576 (the second form). -/
import Derived.Test.YtijcchddnnnmdaaK83
namespace Go.Proofs.Ytijcchddnnnmdaa
open Go.RowKit
set_option linter.unusedSimpArgs false
set_option linter.unusedVariables false
set_option linter.unusedSectionVars false
def Tr.size : Tr → Nat
  | .mk _ b _ brs => 1 + b.size + (brs.attach.map fun x => 1 + x.1.ctor.length + Tr.size x.1.tree).sum
termination_by t => SizeOf.sizeOf t
decreasing_by
  have h1 := List.sizeOf_lt_of_mem x.2
  have h2 := BrF.tree_lt x.1
  simp only [Tr.mk.sizeOf_spec]; omega
def Tr.cn : Tr → List Bs
  | .mk k b _ brs => if k = 0 then consts b else (brs.attach.map fun x => x.1.ctor :: (if x.1.absurd then [] else Tr.cn x.1.tree)).flatten
termination_by t => SizeOf.sizeOf t
decreasing_by
  have h1 := List.sizeOf_lt_of_mem x.2
  have h2 := BrF.tree_lt x.1
  simp only [Tr.mk.sizeOf_spec]; omega
def bsz (b : Br) : Nat := 1 + b.ctor.length + b.tree.size
def bcn (b : Br) : List Bs := b.ctor :: (if b.absurd then [] else b.tree.cn)
theorem Tr.size_eq (t : Tr) : t.size = 1 + t.body.size + (t.branches.map bsz).sum := by
  cases t with
  | mk k b v brs =>
    rw [Tr.size]
    show _ = 1 + b.size + (brs.map bsz).sum
    rw [← List.attach_map_val (l := brs) (f := bsz)]; rfl
theorem Tr.cn_eq (t : Tr) : t.cn = if t.kind = 0 then consts t.body else (t.branches.map bcn).flatten := by
  cases t with
  | mk k b v brs =>
    rw [Tr.cn]
    show _ = if k = 0 then consts b else (brs.map bcn).flatten
    rw [← List.attach_map_val (l := brs) (f := bcn)]; rfl
theorem Tr.kid_size {t : Tr} {b : Br} (h : b ∈ t.branches) : b.tree.size < t.size := by
  have := sum_mem bsz h
  have e : bsz b = 1 + b.ctor.length + b.tree.size := rfl
  rw [t.size_eq]; omega
theorem Tr.ind {C : Tr → Prop} (h : ∀ t : Tr, (∀ b ∈ t.branches, C b.tree) → C t) (t : Tr) : C t := by
  have : ∀ n (t : Tr), t.size ≤ n → C t := by
    intro n
    induction n with
    | zero => intro t ht; rw [t.size_eq] at ht; omega
    | succ n ih => exact fun t ht => h t fun k hk => ih k.tree (by have := Tr.kid_size hk; omega)
  exact this _ t (Nat.le_refl _)
theorem Tr.cn_len (t : Tr) : t.cn.length ≤ t.size := by
  induction t using Tr.ind with
  | h t ih =>
    rw [t.cn_eq, t.size_eq]
    split
    · have := consts_len t.body; omega
    · have := flat_sum bcn bsz t.branches fun b hb => by
        have := ih b hb
        unfold bcn bsz
        rw [List.length_cons]
        split
        · simp; omega
        · omega
      omega
theorem len_sum {α : Type} (g : α → Nat) (hg : ∀ x, 1 ≤ g x) : ∀ l : List α, l.length ≤ (l.map g).sum
  | [] => Nat.le_refl _
  | x :: l => by
    rw [List.map_cons, List.sum_cons, List.length_cons]
    have := hg x
    have := len_sum g hg l
    omega
theorem branches_len (t : Tr) : t.branches.length < t.size := by
  have := len_sum bsz (fun b => by unfold bsz; omega) t.branches
  rw [t.size_eq]; omega
def csz (c : Ctr) : Nat := 1 + c.name.length + c.ty.size
def fsz (f : Fn) : Nat := 1 + f.name.length + f.ty.size + f.tree.size
def Dcl.size (d : Dcl) : Nat := 1 + d.name.length + d.ty.size + d.value.size + (d.ctors.map csz).sum + d.rcr.ty.size + (d.rcr.rules.map Tm.size).sum + (d.funs.map fsz).sum
theorem ctors_len (d : Dcl) : d.ctors.length < d.size := by
  have := len_sum csz (fun b => by unfold csz; omega) d.ctors
  unfold Dcl.size; omega
theorem funs_len (d : Dcl) : d.funs.length < d.size := by
  have := len_sum fsz (fun b => by unfold fsz; omega) d.funs
  unfold Dcl.size; omega
theorem rules_len (d : Dcl) : d.rcr.rules.length < d.size := by
  have := len_sum Tm.size (fun b => by rw [b.size_eq]; omega) d.rcr.rules
  unfold Dcl.size; omega
def names (d : Dcl) : List Bs :=
  if d.kind = 0 ∨ d.kind = 1 ∨ d.kind = 2 then [d.name] else
  if d.kind = 3 then (d.name :: d.ctors.map (·.name)) ++ [d.name ++ [46, 114, 101, 99]] else
  if d.kind = 4 then d.funs.map (·.name) else []
theorem names_len (d : Dcl) : (names d).length ≤ d.size + 1 := by
  have h1 := ctors_len d
  have h2 := funs_len d
  unfold names
  split
  · simp
  · split
    · simp; omega
    · split
      · simp; omega
      · simp
theorem fold_snoc {α : Type} (f : α → Bs) : ∀ (l : List α) (s : List Bs), l.foldl (fun s x => s ++ [f x]) s = s ++ l.map f
  | [], s => by simp
  | x :: l, s => by rw [List.foldl_cons, fold_snoc f l]; simp
theorem kinds_eq (k : Int) : (cond (k == 0) (some (k == 0)) (cond (k == 1) (some (k == 1)) (some (k == 2)))) = some (decide (k = 0 ∨ k = 1 ∨ k = 2)) := by
  by_cases h0 : k = 0
  · subst h0; rfl
  · by_cases h1 : k = 1
    · subst h1; rfl
    · by_cases h2 : k = 2
      · subst h2; rfl
      · simp [beqI, h0, h1, h2]
theorem m37_eq (d : Dcl) (h : d.size ≤ 900000000) : m37 d = some (names d) := by
  have h1 := ctors_len d
  have h2 := funs_len d
  have hn : d.name.length < d.size := by unfold Dcl.size; omega
  unfold m37
  rw [kinds_eq, Option.bind_some]
  unfold names
  by_cases hk : d.kind = 0 ∨ d.kind = 1 ∨ d.kind = 2
  · rw [if_pos hk, decide_eq_true hk]; rfl
  rw [if_neg hk, decide_eq_false hk]
  by_cases h3 : d.kind = 3
  · rw [if_pos h3, h3, loop_fold (step := m37_l0 d) d.ctors (fun i (s : List Bs) => (s, i)) (fun s c => s ++ [c.name]) [d.name] ((d.name :: d.ctors.map (·.name))) (by omega)
      (fun a x b hl => by
        rw [fold_snoc]
        unfold m37_l0
        dsimp only
        have : a.length < d.ctors.length := mid_lt hl
        rw [hl, lt_mid, idx_mid]
        simp only [cond_true, Option.bind_some]
        rw [guard_le (by simp; omega)])
      (by unfold m37_l0; dsimp only; rw [lt_end, fold_snoc]; rfl)]
    simp only [cond_false, Option.bind_some, beq_self_eq_true, cond_true]
    rw [guard_le (by simp), guard_le (by simp; omega), guard_le (by simp; omega)]
  rw [if_neg h3, show (d.kind == 3) = false from beq_eq_false_iff_ne.2 h3]
  by_cases h4 : d.kind = 4
  · rw [if_pos h4, h4, loop_fold (step := m37_l1 d) d.funs (fun i (s : List Bs) => (s, i)) (fun s c => s ++ [c.name]) [] (d.funs.map (·.name)) (by omega)
      (fun a x b hl => by
        rw [fold_snoc]
        unfold m37_l1
        dsimp only
        have : a.length < d.funs.length := mid_lt hl
        rw [hl, lt_mid, idx_mid]
        simp only [cond_true, Option.bind_some]
        rw [guard_le (by simp; omega)])
      (by unfold m37_l1; dsimp only; rw [lt_end, fold_snoc]; rfl)]
    rfl
  rw [if_neg h4, show (d.kind == 4) = false from beq_eq_false_iff_ne.2 h4]; rfl
theorem m18_eq (d : Dcl) (h : d.size ≤ 900000000) : m18 d = some (names d) := by
  have h1 := ctors_len d
  have h2 := funs_len d
  have hn : d.name.length < d.size := by unfold Dcl.size; omega
  unfold m18
  rw [kinds_eq, Option.bind_some]
  unfold names
  by_cases hk : d.kind = 0 ∨ d.kind = 1 ∨ d.kind = 2
  · rw [if_pos hk, decide_eq_true hk]; rfl
  rw [if_neg hk, decide_eq_false hk]
  by_cases h3 : d.kind = 3
  · rw [if_pos h3, h3, loop_fold (step := m18_l0 d) d.ctors (fun i (s : List Bs) => (s, i)) (fun s c => s ++ [c.name]) [d.name] ((d.name :: d.ctors.map (·.name))) (by omega)
      (fun a x b hl => by
        rw [fold_snoc]
        unfold m18_l0
        dsimp only
        have : a.length < d.ctors.length := mid_lt hl
        rw [hl, lt_mid, idx_mid]
        simp only [cond_true, Option.bind_some]
        rw [guard_le (by simp; omega)])
      (by unfold m18_l0; dsimp only; rw [lt_end, fold_snoc]; rfl)]
    simp only [cond_false, Option.bind_some, beq_self_eq_true, cond_true]
    rw [guard_le (by simp; omega), guard_le (by simp; omega)]
  rw [if_neg h3, show (d.kind == 3) = false from beq_eq_false_iff_ne.2 h3]
  by_cases h4 : d.kind = 4
  · rw [if_pos h4, h4, loop_fold (step := m18_l1 d) d.funs (fun i (s : List Bs) => (s, i)) (fun s c => s ++ [c.name]) [] (d.funs.map (·.name)) (by omega)
      (fun a x b hl => by
        rw [fold_snoc]
        unfold m18_l1
        dsimp only
        have : a.length < d.funs.length := mid_lt hl
        rw [hl, lt_mid, idx_mid]
        simp only [cond_true, Option.bind_some]
        rw [guard_le (by simp; omega)])
      (by unfold m18_l1; dsimp only; rw [lt_end, fold_snoc]; rfl)]
    rfl
  rw [if_neg h4, show (d.kind == 4) = false from beq_eq_false_iff_ne.2 h4]; rfl
theorem m52f3_eq (l own out : List Bs) (M : GMap Bs Bool) (a3 : List Tm) (a4 : Dcl) (hM : Met own out M) (h : out.length + l.length ≤ 900000000) : ∃ M', m52f3 l M out a3 a4 = some (M', addL own out l) ∧ Met own (addL own out l) M' := by
  unfold m52f3
  obtain ⟨r, e, M', rfl, hM'⟩ := loop_all (step := m52f3_l0 l a3 a4) l (fun i (s : GMap Bs Bool × List Bs) => (i, s.1, s.2)) (fun a s => Met own s.2 s.1 ∧ s.2 = addL own out a) (fun r => ∃ M', r = (M', addL own out l) ∧ Met own (addL own out l) M') (by omega)
    (fun a x b s hl hs => .inr (by
      obtain ⟨Ms, os⟩ := s
      obtain ⟨hs1, hs2⟩ := hs
      dsimp only at hs1 hs2
      have hol := addL_len own a out
      rw [← hs2] at hol
      have : a.length < l.length := mid_lt hl
      obtain ⟨M1, e1, hM1⟩ := add_step hs1 x (by omega)
      refine ⟨(M1, addN own os x), ?_, hM1, ?_⟩
      · unfold m52f3_l0
        dsimp only
        rw [hl, lt_mid, idx_mid]
        simp only [cond_true, Option.bind_some]
        unfold m89f4
        rw [e1]; rfl
      · rw [addL_app, ← hs2]; rfl))
    (fun s hs => ⟨(s.1, s.2), by unfold m52f3_l0; dsimp only; rw [lt_end]; rfl, s.1, by rw [hs.2], by rw [← hs.2]; exact hs.1⟩) (M, out) ⟨hM, rfl⟩
  rw [e]
  exact ⟨M', rfl, hM'⟩
theorem tvisit_ok (a3 : List Tm) (a4 : Dcl) : ∀ (n : Nat) (t : Tr) (own out : List Bs) (M : GMap Bs Bool), t.size ≤ n → Met own out M → out.length + t.size ≤ 900000000 →
    ∃ M', recO m75f1F n (t, M, out, a3, a4) = some (true, M', addL own out t.cn) ∧ Met own (addL own out t.cn) M'
  | 0, t, own, out, M, h, _, _ => by rw [t.size_eq] at h; omega
  | n + 1, t, own, out, M, h, hM, hb => by
    show ∃ M', m75f1s (recO m75f1F n) t M out a3 a4 = _ ∧ _
    unfold m75f1s
    have hsz := t.size_eq
    have hlen := branches_len t
    rw [t.cn_eq]
    by_cases hk : t.kind = 0
    · rw [if_pos hk, hk]
      have := consts_len t.body
      rw [m74_eq _ (by omega)]
      obtain ⟨M', e, hM'⟩ := m52f3_eq (consts t.body) own out M a3 a4 hM (by omega)
      refine ⟨M', ?_, hM'⟩
      simp only [Option.bind_some, beq_self_eq_true, cond_true]
      unfold m31f2
      rw [e]; rfl
    · rw [if_neg hk, show (t.kind == 0) = false from beq_eq_false_iff_ne.2 hk, cond_false]
      obtain ⟨r, e, M', rfl, hM'⟩ := loop_all (step := m75f1_l0 t (recO m75f1F n) a3 a4) t.branches (fun i (s : GMap Bs Bool × List Bs) => (i, s.1, s.2)) (fun a s => Met own s.2 s.1 ∧ s.2 = addL own out (a.map bcn).flatten)
        (fun r => ∃ M', r = .inl (M', addL own out (t.branches.map bcn).flatten) ∧ Met own (addL own out (t.branches.map bcn).flatten) M') (by omega)
        (fun a x b s hl hs => .inr (by
          obtain ⟨Ms, os⟩ := s
          obtain ⟨hs1, hs2⟩ := hs
          dsimp only at hs1 hs2
          have hx : x ∈ t.branches := by rw [hl]; simp
          have hxs := Tr.kid_size hx
          have hol : os.length ≤ out.length + (a.map bsz).sum := by
            rw [hs2]
            refine Nat.le_trans (addL_len own _ _) ?_
            have := flat_sum bcn bsz a fun y _ => by
              have := y.tree.cn_len
              unfold bcn bsz
              rw [List.length_cons]
              split
              · simp; omega
              · omega
            omega
          have htot : (t.branches.map bsz).sum = (a.map bsz).sum + bsz x + (b.map bsz).sum := by rw [hl, sum_split]
          have hbx : bsz x = 1 + x.ctor.length + x.tree.size := rfl
          obtain ⟨M1, e1, hM1⟩ := add_step hs1 x.ctor (by omega)
          have hadd := addN_len own os x.ctor
          cases ha : x.absurd with
          | true =>
            refine ⟨(M1, addN own os x.ctor), ?_, hM1, ?_⟩
            · unfold m75f1_l0
              dsimp only
              rw [hl, lt_mid, idx_mid]
              simp only [cond_true, Option.bind_some]
              rw [e1, ha]; rfl
            · rw [List.map_append, List.flatten_append, addL_app, ← hs2]
              simp only [List.map_cons, List.map_nil, List.flatten_cons, List.flatten_nil, List.append_nil, bcn, ha, if_true]; rfl
          | false =>
            obtain ⟨M2, e2, hM2⟩ := tvisit_ok a3 a4 n x.tree own (addN own os x.ctor) M1 (by omega) hM1 (by omega)
            refine ⟨(M2, addL own (addN own os x.ctor) x.tree.cn), ?_, hM2, ?_⟩
            · unfold m75f1_l0
              dsimp only
              rw [hl, lt_mid, idx_mid]
              simp only [cond_true, Option.bind_some]
              rw [e1, ha]
              simp only [Option.bind_some, Bool.not_false, cond_true]
              rw [e2]; rfl
            · rw [List.map_append, List.flatten_append, addL_app, ← hs2]
              simp only [List.map_cons, List.map_nil, List.flatten_cons, List.flatten_nil, List.append_nil, bcn, ha]; rfl))
        (fun s hs => ⟨.inl (s.1, s.2), by unfold m75f1_l0; dsimp only; rw [lt_end]; rfl, s.1, by rw [hs.2], by rw [← hs.2]; exact hs.1⟩) (M, out) ⟨hM, rfl⟩
      rw [e]
      exact ⟨M', rfl, hM'⟩
def termsOf (d : Dcl) : List Tm := [d.ty, d.value] ++ d.ctors.map (·.ty) ++ [d.rcr.ty] ++ d.rcr.rules ++ d.funs.map (·.ty)
def mentioned (d : Dcl) : List Bs := ((termsOf d).map consts).flatten ++ (d.funs.map fun f => f.tree.cn).flatten
def uses (d : Dcl) : List Bs := addL (names d) [] (mentioned d)
theorem flat_le {α : Type} (f : α → List Bs) (g : α → Nat) (h : ∀ x, (f x).length ≤ g x) (l : List α) : (l.map f).flatten.length ≤ (l.map g).sum := flat_sum f g l fun x _ => h x
theorem sum_le {α : Type} (f g : α → Nat) (h : ∀ x, f x ≤ g x) : ∀ l : List α, (l.map f).sum ≤ (l.map g).sum
  | [] => Nat.le_refl _
  | x :: l => by
    simp only [List.map_cons, List.sum_cons]
    have := h x
    have := sum_le f g h l
    omega
theorem terms_sum (d : Dcl) : ((termsOf d).map Tm.size).sum + (d.funs.map fun f => f.tree.size).sum < d.size := by
  unfold termsOf Dcl.size
  simp only [List.map_append, List.map_cons, List.map_nil, List.sum_append, List.sum_cons, List.sum_nil, List.map_map]
  have h1 := sum_le (Tm.size ∘ fun c : Ctr => c.ty) csz (fun c => by show c.ty.size ≤ csz c; unfold csz; omega) d.ctors
  have h2 : (d.funs.map (Tm.size ∘ fun f : Fn => f.ty)).sum + (d.funs.map fun f => f.tree.size).sum ≤ (d.funs.map fsz).sum := by
    induction d.funs with
    | nil => exact Nat.le_refl _
    | cons f l ih =>
      simp only [List.map_cons, List.sum_cons]
      have : fsz f = 1 + f.name.length + f.ty.size + f.tree.size := rfl
      have : (Tm.size ∘ fun f : Fn => f.ty) f = f.ty.size := rfl
      omega
  omega
theorem terms_len (d : Dcl) : (termsOf d).length < d.size := by
  have := terms_sum d
  have h1 := len_sum Tm.size (fun b => by rw [b.size_eq]; omega) (termsOf d)
  omega
theorem mentioned_len (d : Dcl) : (mentioned d).length < d.size := by
  unfold mentioned
  rw [List.length_append]
  have h1 := flat_le consts Tm.size consts_len (termsOf d)
  have h2 := flat_le (fun f : Fn => f.tree.cn) (fun f => f.tree.size) (fun f => f.tree.cn_len) d.funs
  have := terms_sum d
  omega
theorem uses_len (d : Dcl) : (uses d).length < d.size := by
  have := addL_len (names d) (mentioned d) []
  have := mentioned_len d
  unfold uses
  simp only [List.length_nil] at *
  omega
theorem fold_snocT {α : Type} (f : α → Tm) : ∀ (l : List α) (s : List Tm), l.foldl (fun s x => s ++ [f x]) s = s ++ l.map f
  | [], s => by simp
  | x :: l, s => by rw [List.foldl_cons, fold_snocT f l]; simp
theorem term_mem {d : Dcl} {t : Tm} (h : t ∈ termsOf d) : t.size < d.size := by
  have := sum_mem Tm.size h
  have := terms_sum d
  omega
theorem fun_mem {d : Dcl} {f : Fn} (h : f ∈ d.funs) : f.tree.size < d.size := by
  have := sum_mem (fun f : Fn => f.tree.size) h
  have := terms_sum d
  omega
theorem terms_eq (d : Dcl) (h : d.size ≤ 900000000) : (Option.bind (loopN (m53_l1 d) FUEL (0, [d.ty, d.value])) (fun (o5 : (List Tm)) => guardO (Nat.ble (o5.length + ([d.rcr.ty]).length) 1000000000)
  (guardO (Nat.ble ((o5 ++ ([d.rcr.ty])).length + d.rcr.rules.length) 1000000000)
  (Option.bind (loopN (m53_l2 d) FUEL (0, ((o5 ++ ([d.rcr.ty])) ++ d.rcr.rules))) (fun (o8 : (List Tm)) => some o8))))) = some (termsOf d) := by
  have h1 := ctors_len d
  have h2 := funs_len d
  have h3 := rules_len d
  have hsum : d.ctors.length + d.rcr.rules.length + d.funs.length + 3 ≤ d.size := by
    have := terms_len d
    unfold termsOf at this
    simp at this
    omega
  rw [loop_fold (step := m53_l1 d) d.ctors (fun i (s : List Tm) => (i, s)) (fun s c => s ++ [c.ty]) [d.ty, d.value] ([d.ty, d.value] ++ d.ctors.map (·.ty)) (by omega)
    (fun a x b hl => by
      rw [fold_snocT]
      unfold m53_l1
      dsimp only
      have : a.length < d.ctors.length := mid_lt hl
      rw [hl, lt_mid, idx_mid]
      simp only [cond_true, Option.bind_some]
      rw [guard_le (by simp; omega)])
    (by unfold m53_l1; dsimp only; rw [lt_end, fold_snocT]; rfl)]
  simp only [Option.bind_some]
  rw [guard_le (by simp; omega), guard_le (by simp; omega)]
  rw [loop_fold (step := m53_l2 d) d.funs (fun i (s : List Tm) => (i, s)) (fun s c => s ++ [c.ty]) _ (termsOf d) (by omega)
    (fun a x b hl => by
      rw [fold_snocT]
      unfold m53_l2
      dsimp only
      have : a.length < d.funs.length := mid_lt hl
      rw [hl, lt_mid, idx_mid]
      simp only [cond_true, Option.bind_some]
      rw [guard_le (by simp; omega)])
    (by unfold m53_l2; dsimp only; rw [lt_end, fold_snocT]; rfl)]
  rfl
theorem seen_eq (l : List Bs) (h : l.length ≤ 900000000) : ∃ M, loopN (m53_l0 l) FUEL (0, gmNil) = some M ∧ Met l [] M := by
  refine loop_all (step := m53_l0 l) l (fun i (s : GMap Bs Bool) => (i, s)) (fun a s => Met a [] s) (fun M => Met l [] M) h
    (fun a x b s hl hs => .inr ⟨gmSet s x true, ?_, fun y => ?_⟩) (fun s hs => ⟨s, by unfold m53_l0; dsimp only; rw [lt_end]; rfl, hs⟩) gmNil Met.nil
  · unfold m53_l0
    dsimp only
    rw [hl, lt_mid, idx_mid]; rfl
  · rw [gmVal_set, hs y]
    by_cases e : y = x
    · subst e; simp
    · simp [e]
theorem m53_l3_eq (l own out : List Bs) (M : GMap Bs Bool) (hM : Met own out M) (h : out.length + l.length ≤ 900000000) : ∃ M', loopN (m53_l3 l) FUEL (0, M, out) = some (M', addL own out l) ∧ Met own (addL own out l) M' := by
  obtain ⟨r, e, M', rfl, hM'⟩ := loop_all (step := m53_l3 l) l (fun i (s : GMap Bs Bool × List Bs) => (i, s.1, s.2)) (fun a s => Met own s.2 s.1 ∧ s.2 = addL own out a) (fun r => ∃ M', r = (M', addL own out l) ∧ Met own (addL own out l) M') (by omega)
    (fun a x b s hl hs => .inr (by
      obtain ⟨Ms, os⟩ := s
      obtain ⟨hs1, hs2⟩ := hs
      dsimp only at hs1 hs2
      have hol := addL_len own a out
      rw [← hs2] at hol
      have : a.length < l.length := mid_lt hl
      obtain ⟨M1, e1, hM1⟩ := add_step hs1 x (by omega)
      refine ⟨(M1, addN own os x), ?_, hM1, ?_⟩
      · unfold m53_l3
        dsimp only
        rw [hl, lt_mid, idx_mid]
        simp only [cond_true, Option.bind_some]
        rw [e1]; rfl
      · rw [addL_app, ← hs2]; rfl))
    (fun s hs => ⟨(s.1, s.2), by unfold m53_l3; dsimp only; rw [lt_end]; rfl, s.1, by rw [hs.2], by rw [← hs.2]; exact hs.1⟩) (M, out) ⟨hM, rfl⟩
  exact ⟨M', e, hM'⟩
theorem m53_eq (d : Dcl) (h : d.size ≤ 400000000) : m53 d = some (uses d) := by
  have hn := names_len d
  have hts := terms_sum d
  have htl := terms_len d
  have hfl := funs_len d
  unfold m53
  rw [m37_eq d (by omega), Option.bind_some]
  obtain ⟨M0, e0, hM0⟩ := seen_eq (names d) (by omega)
  rw [e0, Option.bind_some, terms_eq d (by omega), Option.bind_some]
  obtain ⟨r, e1, M1, rfl, hM1⟩ := loop_all (step := m53_l4 (termsOf d)) (termsOf d) (fun i (s : GMap Bs Bool × List Bs) => (i, s.1, s.2)) (fun a s => Met (names d) s.2 s.1 ∧ s.2 = addL (names d) [] (a.map consts).flatten)
    (fun r => ∃ M', r = (M', addL (names d) [] ((termsOf d).map consts).flatten) ∧ Met (names d) (addL (names d) [] ((termsOf d).map consts).flatten) M') (by omega)
    (fun a x b s hl hs => .inr (by
      obtain ⟨Ms, os⟩ := s
      obtain ⟨hs1, hs2⟩ := hs
      dsimp only at hs1 hs2
      have hx : x ∈ termsOf d := by rw [hl]; simp
      have hxs := term_mem hx
      have htot : ((termsOf d).map Tm.size).sum = (a.map Tm.size).sum + x.size + (b.map Tm.size).sum := by rw [hl, sum_split]
      have hol : os.length ≤ (a.map Tm.size).sum := by
        rw [hs2]
        refine Nat.le_trans (addL_len _ _ _) ?_
        have := flat_le consts Tm.size consts_len a
        simp only [List.length_nil]; omega
      have hcl := consts_len x
      obtain ⟨M2, e2, hM2⟩ := m53_l3_eq (consts x) (names d) os Ms hs1 (by omega)
      refine ⟨(M2, addL (names d) os (consts x)), ?_, hM2, ?_⟩
      · unfold m53_l4
        dsimp only
        rw [hl, lt_mid, idx_mid]
        simp only [cond_true, Option.bind_some]
        rw [m74_eq x (by omega), Option.bind_some, e2]; rfl
      · rw [hs2, ← addL_app]; simp))
    (fun s hs => ⟨(s.1, s.2), by unfold m53_l4; dsimp only; rw [lt_end]; rfl, s.1, by rw [hs.2], by rw [← hs.2]; exact hs.1⟩) (M0, []) ⟨hM0, rfl⟩
  rw [e1, Option.bind_some]
  have hl1 : (addL (names d) [] ((termsOf d).map consts).flatten).length ≤ ((termsOf d).map Tm.size).sum := by
    refine Nat.le_trans (addL_len _ _ _) ?_
    have := flat_le consts Tm.size consts_len (termsOf d)
    simp only [List.length_nil]; omega
  obtain ⟨r, e3, M3, rfl, hM3⟩ := loop_all (step := m53_l5 d (termsOf d)) d.funs (fun i (s : GMap Bs Bool × List Bs) => (i, s.1, s.2)) (fun a s => Met (names d) s.2 s.1 ∧ s.2 = addL (names d) (addL (names d) [] ((termsOf d).map consts).flatten) (a.map fun f => f.tree.cn).flatten)
    (fun r => ∃ M', r = .inl (M', uses d)) (by omega)
    (fun a x b s hl hs => .inr (by
      obtain ⟨Ms, os⟩ := s
      obtain ⟨hs1, hs2⟩ := hs
      dsimp only at hs1 hs2
      have hx : x ∈ d.funs := by rw [hl]; simp
      have hxs := fun_mem hx
      have htot : (d.funs.map fun f => f.tree.size).sum = (a.map fun f => f.tree.size).sum + x.tree.size + (b.map fun f => f.tree.size).sum := by rw [hl, sum_split]
      have hol : os.length ≤ ((termsOf d).map Tm.size).sum + (a.map fun f => f.tree.size).sum := by
        rw [hs2]
        refine Nat.le_trans (addL_len _ _ _) ?_
        have := flat_le (fun f : Fn => f.tree.cn) (fun f => f.tree.size) (fun f => f.tree.cn_len) a
        omega
      obtain ⟨M2, e2, hM2⟩ := tvisit_ok (termsOf d) d FUEL x.tree (names d) os Ms (by unfold FUEL; omega) hs1 (by omega)
      refine ⟨(M2, addL (names d) os x.tree.cn), ?_, hM2, ?_⟩
      · unfold m53_l5
        dsimp only
        rw [hl, lt_mid, idx_mid]
        simp only [cond_true, Option.bind_some]
        unfold m75f1
        rw [e2]; rfl
      · rw [hs2, ← addL_app]; simp))
    (fun s hs => ⟨.inl (s.1, s.2), by unfold m53_l5; dsimp only; rw [lt_end]; rfl, s.1, by
      obtain ⟨s1, s2⟩ := s
      have := hs.2
      dsimp only at this ⊢
      unfold uses mentioned
      rw [addL_app, ← this]⟩) (M1, addL (names d) [] ((termsOf d).map consts).flatten) ⟨hM1, rfl⟩
  rw [e3]; rfl
theorem rtree_ok : ∀ (n : Nat) (t : Tr) (out : List Bs), t.size ≤ n → out.length + t.size ≤ 900000000 → recO m63f10F n (t, out) = some (out ++ t.cn)
  | 0, t, out, h, _ => by rw [t.size_eq] at h; omega
  | n + 1, t, out, h, hb => by
    show m63f10s (recO m63f10F n) t out = _
    unfold m63f10s
    have hsz := t.size_eq
    have hlen := branches_len t
    rw [t.cn_eq]
    by_cases hk : t.kind = 0
    · rw [if_pos hk, hk]
      have := consts_len t.body
      rw [m62f8_eq _ (by omega)]
      simp only [Option.bind_some, beq_self_eq_true, cond_true]
      rw [guard_le (by omega)]
    · rw [if_neg hk, show (t.kind == 0) = false from beq_eq_false_iff_ne.2 hk, cond_false]
      obtain ⟨r, e, rfl⟩ := loop_all (step := m63f10_l0 t (recO m63f10F n)) t.branches (fun i (s : List Bs) => (s, i)) (fun a s => s = out ++ (a.map bcn).flatten)
        (fun r => r = out ++ (t.branches.map bcn).flatten) (by omega)
        (fun a x b s hl hs => .inr (by
          have hx : x ∈ t.branches := by rw [hl]; simp
          have hxs := Tr.kid_size hx
          have hol : s.length ≤ out.length + (a.map bsz).sum := by
            rw [hs, List.length_append]
            have := flat_sum bcn bsz a fun y _ => by
              have := y.tree.cn_len
              unfold bcn bsz
              rw [List.length_cons]
              split
              · simp; omega
              · omega
            omega
          have htot : (t.branches.map bsz).sum = (a.map bsz).sum + bsz x + (b.map bsz).sum := by rw [hl, sum_split]
          have hbx : bsz x = 1 + x.ctor.length + x.tree.size := rfl
          refine ⟨s ++ bcn x, ?_, by rw [hs]; simp⟩
          unfold m63f10_l0
          dsimp only
          rw [hl, lt_mid, idx_mid]
          simp only [cond_true, Option.bind_some]
          rw [guard_le (by show s.length + 1 ≤ _; omega)]
          cases ha : x.absurd with
          | true => simp [bcn, ha]
          | false =>
            simp only [Bool.not_false, cond_true]
            rw [rtree_ok n x.tree _ (by omega) (by simp; omega)]
            simp [bcn, ha]))
        (fun s hs => ⟨s, by unfold m63f10_l0; dsimp only; rw [lt_end]; rfl, hs⟩) out (by simp)
      rw [e]; rfl
theorem acc_loop {α : Type} {step : List Bs × Int → Option (LO (List Bs × Int) (List Bs))} (l : List α) (f : α → List Bs) (s0 : List Bs) (hlen : l.length ≤ 900000000)
    (hin : ∀ a x b, l = a ++ x :: b → step (s0 ++ (a.map f).flatten, (a.length : Int)) = some (.next ((s0 ++ (a.map f).flatten) ++ f x, w64 ((a.length : Int) + 1))))
    (hout : ∀ s, step (s, (l.length : Int)) = some (.done s)) : loopN step FUEL (s0, 0) = some (s0 ++ (l.map f).flatten) := by
  obtain ⟨r, e, rfl⟩ := loop_all (step := step) l (fun i (s : List Bs) => (s, i)) (fun a s => s = s0 ++ (a.map f).flatten) (fun r => r = s0 ++ (l.map f).flatten) hlen
    (fun a x b s hl hs => .inr ⟨s ++ f x, by rw [hs]; exact hin a x b hl, by rw [hs]; simp⟩) (fun s hs => ⟨s, hout s, hs⟩) s0 (by simp)
  exact e
theorem m47_eq (d : Dcl) (h : d.size ≤ 400000000) : m47 d = some (uses d) := by
  have hn := names_len d
  have hts := terms_sum d
  have htl := terms_len d
  have hfl := funs_len d
  have hcl := ctors_len d
  have hrl := rules_len d
  have hml := mentioned_len d
  have hm1 := term_mem (d := d) (t := d.ty) (by unfold termsOf; simp)
  have hm2 := term_mem (d := d) (t := d.value) (by unfold termsOf; simp)
  have hm3 := term_mem (d := d) (t := d.rcr.ty) (by unfold termsOf; simp)
  have hml' : (consts d.ty).length + (consts d.value).length + ((d.ctors.map fun c => consts c.ty).flatten).length + (consts d.rcr.ty).length + ((d.rcr.rules.map consts).flatten).length + ((d.funs.map fun f => consts f.ty).flatten).length + ((d.funs.map fun f => f.tree.cn).flatten).length = (mentioned d).length := by
    unfold mentioned termsOf
    simp only [List.map_append, List.map_cons, List.map_nil, List.flatten_append, List.flatten_cons, List.flatten_nil, List.append_nil, List.length_append, List.map_map, Function.comp_def]
  unfold m47
  rw [m62f8_eq _ (by omega), Option.bind_some, m62f8_eq _ (by omega), Option.bind_some, guard_le (by omega)]
  rw [acc_loop (step := m47_l0 d) d.ctors (fun c => consts c.ty) _ (by omega) (fun a x b hl => by
      have hx := term_mem (d := d) (t := x.ty) (by unfold termsOf; rw [hl]; simp)
      have : (d.ctors.map fun c => consts c.ty).flatten.length = (a.map fun c => consts c.ty).flatten.length + (consts x.ty).length + (b.map fun c => consts c.ty).flatten.length := by rw [hl]; simp; omega
      unfold m47_l0
      dsimp only
      rw [hl, lt_mid, idx_mid]
      simp only [cond_true, Option.bind_some]
      rw [m62f8_eq _ (by omega), Option.bind_some, guard_le (by simp only [List.length_append]; omega)]) (fun s => by unfold m47_l0; dsimp only; rw [lt_end]; rfl), Option.bind_some]
  rw [m62f8_eq _ (by omega), Option.bind_some, guard_le (by simp only [List.length_append]; omega)]
  rw [acc_loop (step := m47_l1 d) d.rcr.rules consts _ (by omega) (fun a x b hl => by
      have hx := term_mem (d := d) (t := x) (by unfold termsOf; rw [hl]; simp)
      have : (d.rcr.rules.map consts).flatten.length = (a.map consts).flatten.length + (consts x).length + (b.map consts).flatten.length := by rw [hl]; simp; omega
      unfold m47_l1
      dsimp only
      rw [hl, lt_mid, idx_mid]
      simp only [cond_true, Option.bind_some]
      rw [m62f8_eq _ (by omega), Option.bind_some, guard_le (by simp only [List.length_append]; omega)]) (fun s => by unfold m47_l1; dsimp only; rw [lt_end]; rfl), Option.bind_some]
  rw [acc_loop (step := m47_l2 d) d.funs (fun f => consts f.ty) _ (by omega) (fun a x b hl => by
      have hx := term_mem (d := d) (t := x.ty) (by unfold termsOf; rw [hl]; simp)
      have : (d.funs.map fun c => consts c.ty).flatten.length = (a.map fun c => consts c.ty).flatten.length + (consts x.ty).length + (b.map fun c => consts c.ty).flatten.length := by rw [hl]; simp; omega
      unfold m47_l2
      dsimp only
      rw [hl, lt_mid, idx_mid]
      simp only [cond_true, Option.bind_some]
      rw [m62f8_eq _ (by omega), Option.bind_some, guard_le (by simp only [List.length_append]; omega)]) (fun s => by unfold m47_l2; dsimp only; rw [lt_end]; rfl), Option.bind_some]
  rw [acc_loop (step := m47_l3 d) d.funs (fun f => f.tree.cn) _ (by omega) (fun a x b hl => by
      have hx := fun_mem (d := d) (f := x) (by rw [hl]; simp)
      have h0 := congrArg (fun l : List Fn => (l.map fun f => consts f.ty).flatten.length) hl
      have h1 : (d.funs.map fun f => f.tree.cn).flatten.length = (a.map fun f => f.tree.cn).flatten.length + x.tree.cn.length + (b.map fun f => f.tree.cn).flatten.length := by rw [hl]; simp; omega
      unfold m47_l3
      dsimp only
      rw [hl, lt_mid, idx_mid]
      simp only [cond_true, Option.bind_some]
      unfold m63f10
      rw [rtree_ok FUEL x.tree _ (by unfold FUEL; omega) (by simp only [List.length_append]; omega)]; rfl) (fun s => by unfold m47_l3; dsimp only; rw [lt_end]; rfl), Option.bind_some]
  rw [m18_eq d (by omega), Option.bind_some]
  have e : ((((((consts d.ty ++ consts d.value) ++ (d.ctors.map fun c => consts c.ty).flatten) ++ consts d.rcr.ty) ++ (d.rcr.rules.map consts).flatten) ++ (d.funs.map fun f => consts f.ty).flatten) ++ (d.funs.map fun f => f.tree.cn).flatten) = mentioned d := by
    unfold mentioned termsOf
    simp only [List.map_append, List.map_cons, List.map_nil, List.flatten_append, List.flatten_cons, List.flatten_nil, List.append_nil, List.map_map, Function.comp_def, List.append_assoc]
  rw [e]
  rw [loop_fold (step := m47_l4 (mentioned d) (names d)) (mentioned d) (fun i (s : List Bs) => (s, i)) (addN (names d)) [] (uses d) (by omega)
    (fun a x b hl => by
      have hol := addL_len (names d) a []
      have hal : a.length < (mentioned d).length := mid_lt hl
      change (addL (names d) [] a).length ≤ _ at hol
      simp only [List.length_nil] at hol
      show m47_l4 (mentioned d) (names d) (addL (names d) [] a, (a.length : Int)) = _
      unfold m47_l4
      dsimp only
      rw [hl, lt_mid, idx_mid]
      simp only [cond_true, Option.bind_some]
      rw [m64_eq _ _ (by omega), m64_eq _ _ (by omega)]
      show _ = some (LO.next (addN (names d) (addL (names d) [] a) x, _))
      unfold addN
      by_cases h1 : x ∈ names d
      · simp [h1]
      · by_cases h2 : x ∈ addL (names d) [] a
        · simp [h1, h2]
        · rw [guard_le (by show _ + 1 ≤ _; omega)]
          simp [h1, h2])
    (by unfold m47_l4; dsimp only; rw [lt_end]; rfl)]
  rfl
end Go.Proofs.Ytijcchddnnnmdaa
namespace Go.Proofs.Ytijcchddnnnmdaa
open Go.RowKit Go.Shelf
set_option linter.unusedSimpArgs false
set_option linter.unusedVariables false
theorem fo_72_0 : fieldOff Try.prog 72 0 = some 0 := by kernel_rfl
theorem fo_72_1 : fieldOff Try.prog 72 1 = some 1 := by kernel_rfl
theorem ag_57 : tyAgg Try.prog 57 = some (false, 1) := by kernel_rfl
theorem ag_70 : tyAgg Try.prog 70 = some (false, 1) := by kernel_rfl
theorem ag_72 : tyAgg Try.prog 72 = some (true, 2) := by kernel_rfl
theorem sl_22 : tySlice Try.prog 22 = some (48, 23) := by kernel_rfl
theorem sl_54 : tySlice Try.prog 54 = some (3, 1) := by kernel_rfl
theorem sl_57 : tySlice Try.prog 57 = some (54, 1) := by kernel_rfl
theorem z_3 : tyZero Try.prog 3 = some [.int .i64 0] := by kernel_rfl
theorem z_48 : tyZero Try.prog 48 = some [.int .i64 0, .string ByteArray.empty, .int .i64 0, .int .i64 0, .int .i64 0, .string ByteArray.empty, .slice none 0 0, .slice none 0 0, .int .i64 0, .int .i64 0, .string ByteArray.empty, .slice none 0 0, .slice none 0 0, .int .i64 0, .slice none 0 0, .int .i64 0, .int .i64 0, .int .i64 0, .string ByteArray.empty, .slice none 0 0, .slice none 0 0, .slice none 0 0, .slice none 0 0] := by kernel_rfl
theorem z_54 : tyZero Try.prog 54 = some [.slice none 0 0] := by kernel_rfl
theorem z_72 : tyZero Try.prog 72 = some [.slice none 0 0, .map none] := by kernel_rfl
theorem bd_72 : IsStruct Try.prog 72 [(0, 1), (1, 1)] [.slice none 0 0, .map none] := ⟨by kernel_rfl, by kernel_rfl⟩
theorem el_3 : tyElem Try.prog 3 = some (1, 8) := by kernel_rfl
theorem el_54 : tyElem Try.prog 54 = some (1, 24) := by kernel_rfl
theorem mp_70 : tyMap Try.prog 70 = some (false, .one (.d (.v (.int .i64 0)))) := by kernel_rfl
theorem en_23 : Enters Try.prog 23 := enters_of Try.func23 (by kernel_rfl) rfl
theorem en_34 : Enters Try.prog 34 := enters_of Try.func34 (by kernel_rfl) rfl
def m23_l0 (x9 : (List Bs)) (s2 : Int × (GMap Bs Int)) (s3 : Int × (GMap Bs Int)) : Option (LO (Int × (GMap Bs Int)) (((GMap Bs Int)) ⊕ (((List (List Int)) × (GMap Bs Int)) ⊕ Unit ⊕ Unit))) :=
  cond (decide (s3.1 < (x9.length : Int)))
    (Option.bind (idx x9 s3.1) fun (x12 : Bs) =>
  cond (gmHas s3.2 x12)
    (some (.done (.inr (.inr (.inl ())))))
    (some (.next ((w64 (s3.1 + 1)), (gmSet s3.2 x12 s2.1)))))
    (some (.done (.inl s3.2)))
def m23_l1 (a0 : List Dcl) (s2 : Int × (GMap Bs Int)) : Option (LO (Int × (GMap Bs Int)) (((GMap Bs Int)) ⊕ (((List (List Int)) × (GMap Bs Int)) ⊕ Unit ⊕ Unit))) :=
  cond (decide (s2.1 < (a0.length : Int)))
    (Option.bind (idx a0 s2.1) fun (x8 : Dcl) =>
  Option.bind (m37 x8) fun (x9 : (List Bs)) =>
  Option.bind (loopN (m23_l0 x9 s2) FUEL (0, s2.2)) (Sum.elim (fun (o10 : (GMap Bs Int)) => some (.next ((w64 (s2.1 + 1)), o10))) (fun o => some (.done (.inr o)))))
    (some (.done (.inl s2.2)))
def m23_l2 (x10 : (List Bs)) (o6 : (GMap Bs Int)) (s3 : (List Int) × Int) : Option (LO ((List Int) × Int) (((List Int)) ⊕ (((List (List Int)) × (GMap Bs Int)) ⊕ Unit ⊕ Unit))) :=
  cond (decide (s3.2 < (x10.length : Int)))
    (Option.bind (idx x10 s3.2) fun (x13 : Bs) =>
  cond (!(gmHas o6 x13))
    (some (.done (.inr (.inr (.inr ())))))
    (guardO (Nat.ble (s3.1.length + ([(gmVal o6 x13)]).length) 1000000000)
  (some (.next ((s3.1 ++ ([(gmVal o6 x13)])), (w64 (s3.2 + 1)))))))
    (some (.done (.inl s3.1)))
def m23_l3 (a0 : List Dcl) (o6 : (GMap Bs Int)) (s2 : Int × (List (List Int))) : Option (LO (Int × (List (List Int))) (((List (List Int))) ⊕ (((List (List Int)) × (GMap Bs Int)) ⊕ Unit ⊕ Unit))) :=
  cond (decide (s2.1 < (a0.length : Int)))
    (Option.bind (idx a0 s2.1) fun (x9 : Dcl) =>
  Option.bind (m53 x9) fun (x10 : (List Bs)) =>
  Option.bind (loopN (m23_l2 x10 o6) FUEL (([] : List Int), 0)) (Sum.elim (fun (o11 : (List Int)) => Option.bind (sortF o11) fun (x12 : List Int) =>
  Option.bind (compactF x12 ((Enc.encL o11).length)) fun (x13 : List Int) =>
  guardO (Nat.ble (s2.2.length + ([x13]).length) 1000000000)
  (some (.next ((w64 (s2.1 + 1)), (s2.2 ++ ([x13])))))) (fun o => some (.done (.inr o)))))
    (some (.done (.inl s2.2)))
def m23 (a0 : List Dcl) : Option ((List (List Int)) × Int) :=
  Option.bind (Option.bind (loopN (m23_l1 a0) FUEL (0, gmNil)) (Sum.elim (fun (o6 : (GMap Bs Int)) => Option.bind (loopN (m23_l3 a0 o6) FUEL (0, ([] : List (List Int)))) (Sum.elim (fun (o7 : (List (List Int))) => some (.inl (o7, o6))) (fun o => some o))) (fun o => some o))) (Sum.elim (fun (y1 : (List (List Int)) × (GMap Bs Int)) => some (y1.1, 0)) (Sum.elim (fun (y2 : Unit) => some (([] : List (List Int)), 8)) (fun (y3 : Unit) => some (([] : List (List Int)), 9))))
set_option maxRecDepth 100000 in
set_option maxHeartbeats 2000000 in
theorem m23_ok (a0 : List Dcl) (r : (List (List Int)) × Int) (h0 : m23 a0 = some r) : Fun Try.prog 23 [.one (dS a0)] (resOf [.one (dS r.1), .one (dI r.2)]) := by
  unfold m23 at h0
  refine Fun.of_bodyM 9 14 Try.func23 rfl en_23 rfl (lb rfl) (fun S w => ?_)
  simp only [entry]
  refine XC.seq <| XC.region <| rA rfl rfl rfl <| rA rfl rfl rfl <| XL.nil <| XQ.seq <| XC.seq <| XC.region <| rM rfl rfl rfl ?_
  refine bindK h0 (fun y5 h1 h0 => ?_)
  have hc4 : CallM Try.prog 34 [.one (dS a0)] ⟨[], [], 0⟩ (resOf (((Sum.elim (fun (y1 : (List (List Int)) × (GMap Bs Int)) => ([.agg [dA 3 y1.1, .mp 1], .one (dI 0)] : List AV)) (Sum.elim (fun (y2 : Unit) => ([.agg [dN, .d (.v (.map none))], .one (dI 8)] : List AV)) (fun (y3 : Unit) => ([.agg [dN, .d (.v (.map none))], .one (dI 9)] : List AV))))) y5)) ⟨(((Sum.elim (fun (y1 : (List (List Int)) × (GMap Bs Int)) => (⟨[(2, .v (.one (.ptr 0 0))), (3, .v (.one (dI 0)))], [(0, .cells 72 [dA 3 y1.1, .mp 1]), (1, .mp (gmE y1.2.1) y1.2.2)], [(3, some ⟨54, 1, (Enc.encL y1.1).length, []⟩)], 4, 88, []⟩ : St)) (Sum.elim (fun (y2 : Unit) => (⟨[(2, .v (.one (.ptr 0 0))), (3, .v (.one (dI 8)))], [(0, .cells 72 [dN, .d (.v (.map none))])], [], 4, 88, []⟩ : St)) (fun (y3 : Unit) => (⟨[(2, .v (.one (.ptr 0 0))), (3, .v (.one (dI 9)))], [(0, .cells 72 [dN, .d (.v (.map none))])], [], 6, 88, []⟩ : St))))) y5).hp, (((Sum.elim (fun (y1 : (List (List Int)) × (GMap Bs Int)) => (⟨[(2, .v (.one (.ptr 0 0))), (3, .v (.one (dI 0)))], [(0, .cells 72 [dA 3 y1.1, .mp 1]), (1, .mp (gmE y1.2.1) y1.2.2)], [(3, some ⟨54, 1, (Enc.encL y1.1).length, []⟩)], 4, 88, []⟩ : St)) (Sum.elim (fun (y2 : Unit) => (⟨[(2, .v (.one (.ptr 0 0))), (3, .v (.one (dI 8)))], [(0, .cells 72 [dN, .d (.v (.map none))])], [], 4, 88, []⟩ : St)) (fun (y3 : Unit) => (⟨[(2, .v (.one (.ptr 0 0))), (3, .v (.one (dI 9)))], [(0, .cells 72 [dN, .d (.v (.map none))])], [], 6, 88, []⟩ : St))))) y5).tk, (((Sum.elim (fun (y1 : (List (List Int)) × (GMap Bs Int)) => (⟨[(2, .v (.one (.ptr 0 0))), (3, .v (.one (dI 0)))], [(0, .cells 72 [dA 3 y1.1, .mp 1]), (1, .mp (gmE y1.2.1) y1.2.2)], [(3, some ⟨54, 1, (Enc.encL y1.1).length, []⟩)], 4, 88, []⟩ : St)) (Sum.elim (fun (y2 : Unit) => (⟨[(2, .v (.one (.ptr 0 0))), (3, .v (.one (dI 8)))], [(0, .cells 72 [dN, .d (.v (.map none))])], [], 4, 88, []⟩ : St)) (fun (y3 : Unit) => (⟨[(2, .v (.one (.ptr 0 0))), (3, .v (.one (dI 9)))], [(0, .cells 72 [dN, .d (.v (.map none))])], [], 6, 88, []⟩ : St))))) y5).nx⟩ := by
   refine CallM.of_bodyT y5 ((Sum.elim (fun (y1 : (List (List Int)) × (GMap Bs Int)) => (⟨[(2, .v (.one (.ptr 0 0))), (3, .v (.one (dI 0)))], [(0, .cells 72 [dA 3 y1.1, .mp 1]), (1, .mp (gmE y1.2.1) y1.2.2)], [(3, some ⟨54, 1, (Enc.encL y1.1).length, []⟩)], 4, 88, []⟩ : St)) (Sum.elim (fun (y2 : Unit) => (⟨[(2, .v (.one (.ptr 0 0))), (3, .v (.one (dI 8)))], [(0, .cells 72 [dN, .d (.v (.map none))])], [], 4, 88, []⟩ : St)) (fun (y3 : Unit) => (⟨[(2, .v (.one (.ptr 0 0))), (3, .v (.one (dI 9)))], [(0, .cells 72 [dN, .d (.v (.map none))])], [], 6, 88, []⟩ : St))))) ((Sum.elim (fun (y1 : (List (List Int)) × (GMap Bs Int)) => ([.agg [dA 3 y1.1, .mp 1], .one (dI 0)] : List AV)) (Sum.elim (fun (y2 : Unit) => ([.agg [dN, .d (.v (.map none))], .one (dI 8)] : List AV)) (fun (y3 : Unit) => ([.agg [dN, .d (.v (.map none))], .one (dI 9)] : List AV))))) rfl rfl en_34 (lb rfl) (fun z_ => by cases z_ with
     | inl _ => rfl
     | inr z_ => exact (by cases z_ <;> rfl)) (fun z_ => by cases z_ with
     | inl _ => exact (RAs.agg ag_72 rfl rfl rfl rfl (RAs.tmp rfl .nil))
     | inr z_ => exact (by cases z_ with
     | inl _ => exact (RAs.agg ag_72 rfl rfl rfl rfl (RAs.tmp rfl .nil))
     | inr _ => exact (RAs.agg ag_72 rfl rfl rfl rfl (RAs.tmp rfl .nil)))) (fun w0 M V0 Q hv1 hQ1 => ?_)
   simp only [entry]
   refine XC.seq <| XC.region <| XL.put rfl rfl (lb rfl) (OpOK.alloc z_72 rfl) <| rA rfl rfl rfl <| XL.nil <| XQ.seq <| XC.seq <| XC.region <| XL.put rfl rfl (lb rfl) (OpOK.makeMapG Bs Int) <| rR rfl rfl rfl (RO.build1 bd_72 rfl rfl rfl) <| XL.put rfl rfl (lb rfl) (OpOK.alloc z_72 rfl) <| XL.eff rfl rfl (OpOK.store ag_72 rfl rfl rfl rfl (lb rfl) rfl) <| XL.nil <| XQ.seq ?_
   refine XC.seq <| XC.seq <| XC.region <| rM rfl rfl rfl <| rR rfl rfl rfl (RO.lenE (α := Dcl) sl_22 rfl (.d _)) <| rM rfl rfl rfl <| XL.nil <| XQ.seq <| XC.block ?_
   refine XC.joinX 0 (fun (o6 : (GMap Bs Int)) => ⟨[(0, .v (.one (dS a0))), (2, .v (.one (.ptr 0 0))), (4, .v (.one (.ptr 2 0)))], [(0, .cells 72 [dN, .d (.v (.map none))]), (1, .mp (gmE o6.1) o6.2), (2, .cells 72 [dN, .mp 1])], [], 3, 88, []⟩) (fun (o6 : (GMap Bs Int)) => (Option.bind (loopN (m23_l3 a0 o6) FUEL (0, ([] : List (List Int)))) (Sum.elim (fun (o7 : (List (List Int))) => some (.inl (o7, o6))) (fun o => some o))) = some y5) ?_ ?_
   ·
    refine bindK h1 (fun o7 hl2 h1 => ?_)
    refine XC.loopM (m23_l1 a0) (fun s2 => ⟨[(0, .v (.one (dS a0))), (2, .v (.one (.ptr 0 0))), (4, .v (.one (.ptr 2 0))), (20, .v (.one (dS a0))), (21, .v (.one (dI (a0.length : Int)))), (22, .v (.one (dI s2.1)))], [(0, .cells 72 [dN, .d (.v (.map none))]), (1, .mp (gmE s2.2.1) s2.2.2), (2, .cells 72 [dN, .mp 1])], [], 3, 88, []⟩) (0, gmNil) o7 (stle (tR rfl (tR rfl (tR rfl (tR rfl (tR rfl (tR rfl tZ)))))) (hR rfl (hR rfl (hR rfl hZ))) kZ rfl (Nat.le_trans hv1 (lb rfl)) rfl rfl rfl (bB rfl rfl (bG rfl (bB rfl rfl bZ))) rfl rfl) hl2 (fun s2 n2 oo2 h2 ho2 => ?_)
    unfold m23_l1 at h2
    refine XC.seq <| XC.region <| rR rfl rfl rfl (RO.binInt rfl rfl rfl) <| XL.nil <| XQ.seq <| XC.seq ?_
    refine XC.cond (b := (decide (s2.1 < (a0.length : Int)))) rfl (fun c8 => ?_) (fun c8 => ?_)
    ·
     replace h2 := condT c8 h2
     refine XC.skip <| XQ.seq <| XC.seq <| XC.block <| XC.seq <| XC.region <| rM rfl rfl rfl ?_
     refine bindK h2 (fun x9 hx9 h2 => ?_)
     refine rR rfl rfl rfl (RO.indexE (α := Dcl) sl_22 rfl (.d _) rfl hx9) <| rR rfl rfl rfl (RO.loadPelCE (x9 : Dcl) ag_48 rfl) <| XL.put rfl rfl (lb rfl) (OpOK.alloc z_48 rfl) <| rA rfl rfl rfl <| XL.eff rfl rfl (OpOK.storeCE (x9 : Dcl) ag_48 rfl rfl rfl rfl rfl) <| XL.nil <| XQ.seq <| XC.seq <| XC.region <| rR rfl rfl rfl (RO.loadCE (x9 : Dcl) ag_48 rfl rfl) ?_
     refine bindK h2 (fun x10 hx10 h2 => ?_)
     refine XL.put rfl rfl (lb rfl) (OpOK.callFun (m37_ok x9 x10 hx10) rfl (.cons (.agg (.cons (.d _) (.cons (.d _) (.cons (.d _) (.cons (.d _) (.cons (.d _) (.cons (.d _) (.cons (.d _) (.cons (.d _) (.cons (.d _) (.cons (.d _) (.cons (.d _) (.cons (.d _) (.cons (.d _) (.cons (.d _) (.cons (.d _) (.cons (.d _) (.cons (.d _) (.cons (.d _) (.cons (.d _) (.cons (.d _) (.cons (.d _) (.cons (.d _) (.cons (.d _) .nil)))))))))))))))))))))))) .nil)) <| rR rfl rfl rfl (RO.lenE (α := Bs) sl_23 rfl (.d _)) <| rM rfl rfl rfl <| XL.nil <| XQ.seq <| XC.block ?_
     refine XC.joinX 2 (fun (o11 : (GMap Bs Int)) => ⟨[(0, .v (.one (dS a0))), (2, .v (.one (.ptr 0 0))), (4, .v (.one (.ptr 2 0))), (20, .v (.one (dS a0))), (21, .v (.one (dI (a0.length : Int)))), (22, .v (.one (dI s2.1)))], [(0, .cells 72 [dN, .d (.v (.map none))]), (1, .mp (gmE o11.1) o11.2), (2, .cells 72 [dN, .mp 1]), (3, .cells 48 (cE x9))], [], 4, 88, []⟩) (fun (o11 : (GMap Bs Int)) => (some (.next ((w64 (s2.1 + 1)), o11))) = some oo2) ?_ ?_
     ·
      refine bindK h2 (fun o12 hl3 h2 => ?_)
      refine XC.loopM (m23_l0 x10 s2) (fun s3 => ⟨[(0, .v (.one (dS a0))), (2, .v (.one (.ptr 0 0))), (4, .v (.one (.ptr 2 0))), (5, .v (.one (dI s2.1))), (20, .v (.one (dS a0))), (21, .v (.one (dI (a0.length : Int)))), (22, .v (.one (dI s2.1))), (28, .v (.one (dS x10))), (29, .v (.one (dI (x10.length : Int)))), (30, .v (.one (dI s3.1)))], [(0, .cells 72 [dN, .d (.v (.map none))]), (1, .mp (gmE s3.2.1) s3.2.2), (2, .cells 72 [dN, .mp 1]), (3, .cells 48 (cE x9))], [], 4, 88, []⟩) (0, s2.2) o12 (stle (tR rfl (tR rfl (tR rfl (tR rfl (tR rfl (tR rfl (tR rfl (tR rfl (tR rfl (tR rfl tZ)))))))))) (hR rfl (hR rfl (hR rfl (hR rfl hZ)))) kZ rfl (Nat.le_trans hv1 (lb rfl)) rfl rfl rfl (bB rfl rfl (bG rfl (bB rfl rfl (bB rfl rfl bZ)))) rfl rfl) hl3 (fun s3 n3 oo3 h3 ho3 => ?_)
      unfold m23_l0 at h3
      refine XC.seq <| XC.region <| rR rfl rfl rfl (RO.binInt rfl rfl rfl) <| XL.nil <| XQ.seq <| XC.seq ?_
      refine XC.cond (b := (decide (s3.1 < (x10.length : Int)))) rfl (fun c13 => ?_) (fun c13 => ?_)
      ·
       replace h3 := condT c13 h3
       refine XC.skip <| XQ.seq <| XC.seq <| XC.block <| XC.seq <| XC.region ?_
       refine bindK h3 (fun x14 hx14 h3 => ?_)
       refine rR rfl rfl rfl (RO.indexE (α := Bs) sl_23 rfl (.d _) rfl hx14) <| rR rfl rfl rfl (RO.loadPel ag_9 rfl rfl) <| rA rfl rfl rfl <| XL.nil <| XQ.seq <| XC.seq <| XC.seq <| XC.region <| rR rfl rfl rfl (RO.fieldOwn fo_72_1 rfl) <| rR rfl rfl rfl (RO.loadOwn ag_70 rfl rfl rfl) <| rM rfl rfl rfl <| rR rfl rfl rfl (RO.lookupGT (M := s3.2) (k := x14) mp_70 zok_int rfl rfl rfl) <| rM rfl rfl rfl <| rR rfl rfl rfl (RO.extract rfl rfl) ?_
       refine rR rfl rfl rfl (RO.extract rfl rfl) <| rA rfl rfl rfl <| rA rfl rfl rfl <| XL.nil <| XQ.seq <| XC.seq <| XC.region <| rM rfl rfl rfl <| XL.nil <| XQ.seq ?_
       refine XC.cond (b := (gmHas s3.2 x14)) rfl (fun c15 => ?_) (fun c15 => ?_)
       ·
        replace h3 := condT c15 h3
        refine XC.seq <| XC.region <| rR rfl rfl rfl (RO.build0 bd_72 rfl ) <| XL.eff rfl rfl (OpOK.store ag_72 rfl rfl rfl rfl (lb rfl) rfl) <| rA rfl rfl rfl <| XL.nil <| XQ.seq <| XC.ret ?_
        have e_ := Option.some.inj h3
        subst e_
        have e_ : _ = _ := ho3
        subst e_
        try dsimp only [Sum.elim_inl, Sum.elim_inr] at h2
        have e_ := Option.some.inj h2
        subst e_
        have e_ : _ = _ := ho2
        subst e_
        try dsimp only [Sum.elim_inl, Sum.elim_inr] at h1
        have e_ := Option.some.inj h1
        subst e_
        exact hQ1 _ _ _ (.inr rfl) rfl (show StLe _ _ ⟨[(2, .v (.one (.ptr 0 0))), (3, .v (.one (dI 8)))], [(0, .cells 72 [dN, .d (.v (.map none))])], [], 4, 88, []⟩ from (stle (tR rfl (tR rfl tZ)) (hR rfl hZ) kZ rfl (Nat.le_trans hv1 (lb rfl)) rfl rfl rfl (bB rfl rfl bZ) rfl rfl))
       ·
        replace h3 := condF c15 h3
        refine XC.skip <| XQ.seq <| XC.region <| rR rfl rfl rfl (RO.fieldOwn fo_72_1 rfl) <| rR rfl rfl rfl (RO.loadOwn ag_70 rfl rfl rfl) <| rM rfl rfl rfl <| rM rfl rfl rfl <| XL.eff rfl rfl (OpOK.mapSetG (M := s3.2) (k := x14) (v := s2.1) mp_70 rfl rfl rfl rfl rfl) <| XL.nil <| XQ.inBlock <| XQ.seq <| XC.region <| rR rfl rfl rfl (RO.binInt rfl rfl rfl) <| rM rfl rfl rfl ?_
        refine XL.nil ?_
        have e_ := Option.some.inj h3
        subst e_
        refine XQ.nextM ((w64 (s3.1 + 1)), (gmSet s3.2 x14 s2.1)) (stle (tR rfl (tR rfl (tR rfl (tR rfl (tR rfl (tR rfl (tR rfl (tR rfl (tR rfl (tR rfl tZ)))))))))) (hR rfl (hR rfl (hR rfl (hR rfl hZ)))) kZ rfl (Nat.le_trans hv1 (lb rfl)) rfl rfl rfl (bB rfl rfl (bG rfl (bB rfl rfl (bB rfl rfl bZ)))) rfl rfl) ho3
      ·
       replace h3 := condF c13 h3
       refine XC.exit <| XQ.thenE <| XQ.thenE ?_
       have e_ := Option.some.inj h3
       subst e_
       have e_ : _ = _ := ho3
       subst e_
       exact XQ.joinX s3.2 (stle (tR rfl (tR rfl (tR rfl (tR rfl (tR rfl (tR rfl tZ)))))) (hR rfl (hR rfl (hR rfl (hR rfl hZ)))) kZ rfl (Nat.le_trans hv1 (lb rfl)) rfl rfl rfl (bB rfl rfl (bG rfl (bB rfl rfl (bB rfl rfl bZ)))) rfl rfl) h2
     ·
      intro o11 h2
      refine XQ.blockX <| XQ.inBlock <| XQ.seq <| XC.region <| rR rfl rfl rfl (RO.binInt rfl rfl rfl) <| rM rfl rfl rfl <| XL.nil ?_
      have e_ := Option.some.inj h2
      subst e_
      refine XQ.nextM ((w64 (s2.1 + 1)), o11) (stle (tR rfl (tR rfl (tR rfl (tR rfl (tR rfl (tR rfl tZ)))))) (hR rfl (hR rfl (hR rfl hZ))) kZ rfl (Nat.le_trans hv1 (lb rfl)) rfl rfl rfl (bB rfl rfl (bG rfl (bB rfl rfl bZ))) rfl rfl) ho2
    ·
     replace h2 := condF c8 h2
     refine XC.exit <| XQ.thenE <| XQ.thenE ?_
     have e_ := Option.some.inj h2
     subst e_
     have e_ : _ = _ := ho2
     subst e_
     exact XQ.joinX s2.2 (stle (tR rfl (tR rfl (tR rfl tZ))) (hR rfl (hR rfl (hR rfl hZ))) kZ rfl (Nat.le_trans hv1 (lb rfl)) rfl rfl rfl (bB rfl rfl (bG rfl (bB rfl rfl bZ))) rfl rfl) h1
   ·
    intro o6 h1
    refine XQ.blockX <| XQ.seq <| XC.seq <| XC.seq <| XC.region <| rM rfl rfl rfl <| rR rfl rfl rfl (RO.lenE (α := Dcl) sl_22 rfl (.d _)) <| rM rfl rfl rfl <| XL.nil <| XQ.seq <| XC.block ?_
    refine XC.joinX 4 (fun (o16 : (List (List Int))) => ⟨[(2, .v (.one (.ptr 0 0))), (4, .v (.one (.ptr 2 0)))], [(0, .cells 72 [dN, .d (.v (.map none))]), (1, .mp (gmE o6.1) o6.2), (2, .cells 72 [dA 3 o16, .mp 1])], [(3, some ⟨54, 1, (Enc.encL o16).length, []⟩)], 4, 88, []⟩) (fun (o16 : (List (List Int))) => (some (.inl (o16, o6))) = some y5) ?_ ?_
    ·
     refine XC.adoptC (i := 2) (off := 0) 54 1 rfl rfl ?_
     refine bindK h1 (fun o17 hl2 h1 => ?_)
     refine XC.loopM (m23_l3 a0 o6) (fun s2 => ⟨[(2, .v (.one (.ptr 0 0))), (4, .v (.one (.ptr 2 0))), (49, .v (.one (dS a0))), (50, .v (.one (dI (a0.length : Int)))), (51, .v (.one (dI s2.1)))], [(0, .cells 72 [dN, .d (.v (.map none))]), (1, .mp (gmE o6.1) o6.2), (2, .cells 72 [dA 3 s2.2, .mp 1])], [(3, some ⟨54, 1, (Enc.encL s2.2).length, []⟩)], 4, 88, []⟩) (0, ([] : List (List Int))) o17 (stle (tR rfl (tR rfl (tR rfl (tR rfl (tR rfl tZ))))) (hR rfl (hR rfl (hR rfl hZ))) (kR rfl kZ) rfl (Nat.le_trans hv1 (lb rfl)) rfl rfl rfl (bB rfl rfl (bG rfl (bB rfl rfl bZ))) rfl rfl) hl2 (fun s2 n2 oo2 h2 ho2 => ?_)
     unfold m23_l3 at h2
     refine XC.seq <| XC.region <| rR rfl rfl rfl (RO.binInt rfl rfl rfl) <| XL.nil <| XQ.seq <| XC.seq ?_
     refine XC.cond (b := (decide (s2.1 < (a0.length : Int)))) rfl (fun c18 => ?_) (fun c18 => ?_)
     ·
      replace h2 := condT c18 h2
      refine XC.skip <| XQ.seq <| XC.seq <| XC.block <| XC.seq <| XC.region ?_
      refine bindK h2 (fun x19 hx19 h2 => ?_)
      refine rR rfl rfl rfl (RO.indexE (α := Dcl) sl_22 rfl (.d _) rfl hx19) <| rR rfl rfl rfl (RO.loadPelCE (x19 : Dcl) ag_48 rfl) <| XL.put rfl rfl (lb rfl) (OpOK.alloc z_48 rfl) <| XL.eff rfl rfl (OpOK.storeCE (x19 : Dcl) ag_48 rfl rfl rfl rfl rfl) <| XL.nil <| XQ.seq <| XC.seq <| XC.region <| rA rfl rfl rfl <| XL.nil <| XQ.seq <| XC.seq <| XC.seq <| XC.region ?_
      refine rR rfl rfl rfl (RO.loadCE (x19 : Dcl) ag_48 rfl rfl) ?_
      refine bindK h2 (fun x20 hx20 h2 => ?_)
      refine XL.put rfl rfl (lb rfl) (OpOK.callFun (m53_ok x19 x20 hx20) rfl (.cons (.agg (.cons (.d _) (.cons (.d _) (.cons (.d _) (.cons (.d _) (.cons (.d _) (.cons (.d _) (.cons (.d _) (.cons (.d _) (.cons (.d _) (.cons (.d _) (.cons (.d _) (.cons (.d _) (.cons (.d _) (.cons (.d _) (.cons (.d _) (.cons (.d _) (.cons (.d _) (.cons (.d _) (.cons (.d _) (.cons (.d _) (.cons (.d _) (.cons (.d _) (.cons (.d _) .nil)))))))))))))))))))))))) .nil)) <| rR rfl rfl rfl (RO.lenE (α := Bs) sl_23 rfl (.d _)) <| rM rfl rfl rfl <| XL.nil <| XQ.seq <| XC.block ?_
      refine XC.joinX 6 (fun (o21 : (List Int)) => ⟨[(2, .v (.one (.ptr 0 0))), (4, .v (.one (.ptr 2 0))), (13, .v (.one (.apv 5 1 ((Enc.encL o21).length) []))), (49, .v (.one (dS a0))), (50, .v (.one (dI (a0.length : Int)))), (51, .v (.one (dI s2.1)))], [(0, .cells 72 [dN, .d (.v (.map none))]), (1, .mp (gmE o6.1) o6.2), (2, .cells 72 [dA 3 s2.2, .mp 1]), (4, .cells 48 (cE x19))], [(3, some ⟨54, 1, (Enc.encL s2.2).length, []⟩), (5, some ⟨3, 1, (Enc.encL o21).length, (Enc.encL o21).flatten⟩)], 6, 88, []⟩) (fun (o21 : (List Int)) => (Option.bind (sortF o21) fun (x22 : List Int) =>
        Option.bind (compactF x22 ((Enc.encL o21).length)) fun (x23 : List Int) =>
        guardO (Nat.ble (s2.2.length + ([x23]).length) 1000000000)
        (some (.next ((w64 (s2.1 + 1)), (s2.2 ++ ([x23])))))) = some oo2) ?_ ?_
      ·
       refine XC.adoptT (t := 13) 3 1 rfl <| XC.privT (α := Int) (t := 13) rfl rfl ?_
       refine bindK h2 (fun o22 hl3 h2 => ?_)
       refine XC.loopM (m23_l2 x20 o6) (fun s3 => ⟨[(2, .v (.one (.ptr 0 0))), (4, .v (.one (.ptr 2 0))), (13, .v (.one (.apv 5 1 ((Enc.encL s3.1).length) []))), (49, .v (.one (dS a0))), (50, .v (.one (dI (a0.length : Int)))), (51, .v (.one (dI s2.1))), (56, .v (.one (dS x20))), (57, .v (.one (dI (x20.length : Int)))), (58, .v (.one (dI s3.2)))], [(0, .cells 72 [dN, .d (.v (.map none))]), (1, .mp (gmE o6.1) o6.2), (2, .cells 72 [dA 3 s2.2, .mp 1]), (4, .cells 48 (cE x19))], [(3, some ⟨54, 1, (Enc.encL s2.2).length, []⟩), (5, some ⟨3, 1, (Enc.encL s3.1).length, (Enc.encL s3.1).flatten⟩)], 6, 88, []⟩) (([] : List Int), 0) o22 (stle (tR rfl (tR rfl (tR rfl (tR rfl (tR rfl (tR rfl (tR rfl (tR rfl (tR rfl tZ))))))))) (hR rfl (hR rfl (hR rfl (hR rfl hZ)))) (kR rfl (kR rfl kZ)) rfl (Nat.le_trans hv1 (lb rfl)) rfl rfl rfl (bB rfl rfl (bG rfl (bB rfl rfl (bB rfl rfl bZ)))) rfl rfl) hl3 (fun s3 n3 oo3 h3 ho3 => ?_)
       unfold m23_l2 at h3
       refine XC.seq <| XC.region <| rR rfl rfl rfl (RO.binInt rfl rfl rfl) <| XL.nil <| XQ.seq <| XC.seq ?_
       refine XC.cond (b := (decide (s3.2 < (x20.length : Int)))) rfl (fun c23 => ?_) (fun c23 => ?_)
       ·
        replace h3 := condT c23 h3
        refine XC.skip <| XQ.seq <| XC.seq <| XC.block <| XC.seq <| XC.region ?_
        refine bindK h3 (fun x24 hx24 h3 => ?_)
        refine rR rfl rfl rfl (RO.indexE (α := Bs) sl_23 rfl (.d _) rfl hx24) <| rR rfl rfl rfl (RO.loadPel ag_9 rfl rfl) <| rA rfl rfl rfl <| XL.nil <| XQ.seq <| XC.seq <| XC.region <| rR rfl rfl rfl (RO.fieldOwn fo_72_1 rfl) <| rR rfl rfl rfl (RO.loadOwn ag_70 rfl rfl rfl) <| rM rfl rfl rfl <| rR rfl rfl rfl (RO.lookupGT (M := o6) (k := x24) mp_70 zok_int rfl rfl rfl) <| rM rfl rfl rfl <| rR rfl rfl rfl (RO.extract rfl rfl) <| rR rfl rfl rfl (RO.extract rfl rfl) ?_
        refine rA rfl rfl rfl <| rA rfl rfl rfl <| XL.nil <| XQ.seq <| XC.seq <| XC.seq <| XC.region <| rM rfl rfl rfl <| rR rfl rfl rfl (RO.not rfl) <| XL.nil <| XQ.seq ?_
        refine XC.cond (b := (!(gmHas o6 x24))) rfl (fun c25 => ?_) (fun c25 => ?_)
        ·
         replace h3 := condT c25 h3
         refine XC.seq <| XC.region <| rR rfl rfl rfl (RO.build0 bd_72 rfl ) <| XL.eff rfl rfl (OpOK.store ag_72 rfl rfl rfl rfl (lb rfl) rfl) <| rA rfl rfl rfl <| XL.nil <| XQ.seq <| XC.ret ?_
         have e_ := Option.some.inj h3
         subst e_
         have e_ : _ = _ := ho3
         subst e_
         try dsimp only [Sum.elim_inl, Sum.elim_inr] at h2
         have e_ := Option.some.inj h2
         subst e_
         have e_ : _ = _ := ho2
         subst e_
         try dsimp only [Sum.elim_inl, Sum.elim_inr] at h1
         have e_ := Option.some.inj h1
         subst e_
         exact hQ1 _ _ _ (.inr rfl) rfl (show StLe _ _ ⟨[(2, .v (.one (.ptr 0 0))), (3, .v (.one (dI 9)))], [(0, .cells 72 [dN, .d (.v (.map none))])], [], 6, 88, []⟩ from (stle (tR rfl (tR rfl tZ)) (hR rfl hZ) kZ rfl (Nat.le_trans hv1 (lb rfl)) rfl rfl rfl (bB rfl rfl bZ) rfl rfl))
        ·
         replace h3 := condF c25 h3
         refine XC.skip <| XQ.seq <| XC.region <| rM rfl rfl rfl <| rM rfl rfl rfl <| XL.put rfl rfl (lb rfl) (OpOK.lit1E (α := Int) ((gmVal o6 x24)) sl_54 z_3 rfl rfl (lb rfl) (lb rfl) rfl rfl (.cons (.d _) .nil) rfl) ?_
         refine guardK h3 (fun g26 h3 => ?_)
         refine XL.put rfl rfl (lb rfl) (OpOK.appendPr (α := Int) (l := s3.1) (l2 := ([(gmVal o6 x24)] : List Int)) sl_54 el_3 rfl rfl rfl rfl (.app _ _) rfl g26) <| rA rfl rfl rfl <| XL.nil <| XQ.inBlock <| XQ.seq <| XC.region <| rR rfl rfl rfl (RO.binInt rfl rfl rfl) <| rM rfl rfl rfl <| XL.nil ?_
         have e_ := Option.some.inj h3
         subst e_
         refine XQ.nextM ((s3.1 ++ ([(gmVal o6 x24)])), (w64 (s3.2 + 1))) (stle (tR rfl (tR rfl (tR rfl (tR rfl (tR rfl (tR rfl (tR rfl (tR rfl (tR rfl tZ))))))))) (hR rfl (hR rfl (hR rfl (hR rfl hZ)))) (kR rfl (kR rfl kZ)) rfl (Nat.le_trans hv1 (lb rfl)) rfl rfl rfl (bB rfl rfl (bG rfl (bB rfl rfl (bB rfl rfl bZ)))) rfl rfl) ho3
       ·
        replace h3 := condF c23 h3
        refine XC.exit <| XQ.thenE <| XQ.thenE ?_
        have e_ := Option.some.inj h3
        subst e_
        have e_ : _ = _ := ho3
        subst e_
        exact XQ.joinX s3.1 (stle (tR rfl (tR rfl (tR rfl (tR rfl (tR rfl (tR rfl tZ)))))) (hR rfl (hR rfl (hR rfl (hR rfl hZ)))) (kR rfl (kR rfl kZ)) rfl (Nat.le_trans hv1 (lb rfl)) rfl rfl rfl (bB rfl rfl (bG rfl (bB rfl rfl (bB rfl rfl bZ)))) rfl rfl) h2
      ·
       intro o21 h2
       refine XQ.blockX <| XQ.seq <| XC.seq <| XC.region <| rM rfl rfl rfl ?_
       refine bindK h2 (fun x27 hx27 h2 => ?_)
       refine XL.put rfl rfl (lb rfl) (OpOK.callG (hp1' := []) (tk1' := [(5, some ⟨3, 1, (Enc.encL o21).length, (Enc.encL x27).flatten⟩)]) (hpF := [(0, .cells 72 [dN, .d (.v (.map none))]), (1, .mp (gmE o6.1) o6.2), (2, .cells 72 [dA 3 s2.2, .mp 1]), (4, .cells 48 (cE x19))]) (tkF := [(3, some ⟨54, 1, (Enc.encL s2.2).length, []⟩)]) (res2 := resOf []) (nx2 := 6) [5] rfl rfl (sortF_ok o21 x27 hx27) rfl rfl qZ rfl rfl gZ (jR rfl jZ) (hR rfl (hR rfl (hR rfl (hR rfl hZ)))) (kR rfl kZ) rfl rfl rfl rfl rfl bZ rfl rfl rfl rfl) <| XL.nil <| XQ.seq ?_
       refine XC.anyRun [3, 5, 7] [(0, 1), (1, 1)] mixed (by kernel_rfl) (by kernel_rfl) (by kernel_rfl) ?_
       refine RunA.rd rfl rfl rfl (OpOK.of_ro (RO.fieldOwn fo_72_0 rfl)) rfl <| RunA.rd rfl rfl rfl (OpOK.of_ro (RO.loadOwn ag_57 rfl rfl rfl)) rfl <| RunA.rd rfl rfl rfl (OpOK.of_ro (RO.move rfl)) rfl ?_
       refine bindK h2 (fun x28 hx28 h2 => ?_)
       refine RunA.eff rfl rfl rfl (OpOK.callG (hp1' := []) (tk1' := [(6, some ⟨3, 1, (Enc.encL x28).length, []⟩)]) (hpF := [(0, .cells 72 [dN, .d (.v (.map none))]), (1, .mp (gmE o6.1) o6.2), (2, .cells 72 [dA 3 s2.2, .mp 1]), (4, .cells 48 (cE x19))]) (tkF := [(3, some ⟨54, 1, (Enc.encL s2.2).length, []⟩)]) (res2 := resOf [.one (dA 6 x28)]) (nx2 := 7) [5] rfl rfl (compactF_ok x27 ((Enc.encL o21).length) x28 hx28) rfl rfl qZ rfl rfl gZ (jR rfl jZ) (hR rfl (hR rfl (hR rfl (hR rfl hZ)))) (kR rfl kZ) rfl rfl rfl rfl rfl bZ rfl rfl rfl rfl) rfl <| RunA.rd rfl rfl rfl (OpOK.data1E (α := List Int) (x28) sl_57 z_54 rfl rfl (lb rfl) rfl rfl (.cons (.app _ _ _) .nil) rfl) rfl ?_
       refine guardK h2 (fun g29 h2 => ?_)
       refine RunA.eff rfl rfl rfl (OpOK.appendE (α := List Int) sl_57 el_54 rfl rfl rfl rfl rfl (.d _) g29) rfl <| RunA.rd rfl rfl rfl (OpOK.of_ro (RO.fieldOwn fo_72_0 rfl)) rfl <| RunA.eff rfl rfl rfl (OpOK.store ag_57 rfl rfl rfl rfl (lb rfl) rfl) rfl ?_
       refine RunA.nil ⟨?ex, _, _, rfl, ?_⟩
       case ex => exact ⟨⟨_, rfl, _, _, rfl, rfl, rfl, .inl ⟨rfl, _, OpOK.of_ro (RO.fieldOwn fo_72_0 rfl), rfl⟩⟩, ⟨_, rfl, _, _, rfl, rfl, rfl, .inl ⟨rfl, _, OpOK.of_ro (RO.loadOwn ag_57 rfl rfl rfl), rfl⟩⟩, trivial⟩
       refine XQ.less (st' := ⟨[(2, .v (.one (.ptr 0 0))), (4, .v (.one (.ptr 2 0))), (49, .v (.one (dS a0))), (50, .v (.one (dI (a0.length : Int)))), (51, .v (.one (dI s2.1)))], [(0, .cells 72 [dN, .d (.v (.map none))]), (1, .mp (gmE o6.1) o6.2), (2, .cells 72 [dA 3 ((s2.2 ++ ([x28])) : List (List Int)), .mp 1]), (4, .cells 48 (cE x19))], [(3, some ⟨54, 1, (Enc.encL ((s2.2 ++ ([x28])) : List (List Int))).length, []⟩), (6, some ⟨3, 1, (Enc.encL x28).length, []⟩)], 7, 88, []⟩) (stle (tR rfl (tR rfl (tR rfl (tR rfl (tR rfl tZ))))) (hR rfl (hR rfl (hR rfl (hR rfl hZ)))) (kR rfl (kR rfl kZ)) rfl (Nat.le_trans hv1 (lb rfl)) rfl rfl rfl (bB rfl rfl (bG rfl (bB rfl rfl (bB rfl rfl bZ)))) rfl rfl) <| XQ.inBlock <| XQ.seq <| XC.region <| rR rfl rfl rfl (RO.binInt rfl rfl rfl) <| rM rfl rfl rfl <| XL.nil ?_
       have e_ := Option.some.inj h2
       subst e_
       refine XQ.nextM ((w64 (s2.1 + 1)), (s2.2 ++ ([x28]))) (stle (tR rfl (tR rfl (tR rfl (tR rfl (tR rfl tZ))))) (hR rfl (hR rfl (hR rfl hZ))) (kR rfl kZ) rfl (Nat.le_trans hv1 (lb rfl)) rfl rfl rfl (bB rfl rfl (bG rfl (bB rfl rfl bZ))) rfl rfl) ho2
     ·
      replace h2 := condF c18 h2
      refine XC.exit <| XQ.thenE <| XQ.thenE ?_
      have e_ := Option.some.inj h2
      subst e_
      have e_ : _ = _ := ho2
      subst e_
      exact XQ.joinX s2.2 (stle (tR rfl (tR rfl tZ)) (hR rfl (hR rfl (hR rfl hZ))) (kR rfl kZ) rfl (Nat.le_trans hv1 (lb rfl)) rfl rfl rfl (bB rfl rfl (bG rfl (bB rfl rfl bZ))) rfl rfl) h1
    ·
     intro o16 h1
     refine XQ.blockX <| XQ.seq <| XC.seq <| XC.region <| rR rfl rfl rfl (RO.loadOwnAgg ag_72 rfl rfl rfl rfl) <| XL.eff rfl rfl (OpOK.store ag_72 rfl rfl rfl rfl (lb rfl) rfl) <| rA rfl rfl rfl <| XL.nil <| XQ.seq <| XC.ret ?_
     have e_ := Option.some.inj h1
     subst e_
     exact hQ1 _ _ _ (.inr rfl) rfl (show StLe _ _ ⟨[(2, .v (.one (.ptr 0 0))), (3, .v (.one (dI 0)))], [(0, .cells 72 [dA 3 o16, .mp 1]), (1, .mp (gmE o6.1) o6.2)], [(3, some ⟨54, 1, (Enc.encL o16).length, []⟩)], 4, 88, []⟩ from (stle (tR rfl (tR rfl tZ)) (hR rfl (hR rfl hZ)) (kR rfl kZ) rfl (Nat.le_trans hv1 (lb rfl)) rfl rfl rfl (bB rfl rfl (bG rfl bZ)) rfl rfl))
  refine sumK (C := fun q_ => CallM Try.prog 34 [.one (dS a0)] ⟨[], [], 0⟩ (resOf (((Sum.elim (fun (y1 : (List (List Int)) × (GMap Bs Int)) => ([.agg [dA 3 y1.1, .mp 1], .one (dI 0)] : List AV)) (Sum.elim (fun (y2 : Unit) => ([.agg [dN, .d (.v (.map none))], .one (dI 8)] : List AV)) (fun (y3 : Unit) => ([.agg [dN, .d (.v (.map none))], .one (dI 9)] : List AV))))) q_)) ⟨(((Sum.elim (fun (y1 : (List (List Int)) × (GMap Bs Int)) => (⟨[(2, .v (.one (.ptr 0 0))), (3, .v (.one (dI 0)))], [(0, .cells 72 [dA 3 y1.1, .mp 1]), (1, .mp (gmE y1.2.1) y1.2.2)], [(3, some ⟨54, 1, (Enc.encL y1.1).length, []⟩)], 4, 88, []⟩ : St)) (Sum.elim (fun (y2 : Unit) => (⟨[(2, .v (.one (.ptr 0 0))), (3, .v (.one (dI 8)))], [(0, .cells 72 [dN, .d (.v (.map none))])], [], 4, 88, []⟩ : St)) (fun (y3 : Unit) => (⟨[(2, .v (.one (.ptr 0 0))), (3, .v (.one (dI 9)))], [(0, .cells 72 [dN, .d (.v (.map none))])], [], 6, 88, []⟩ : St))))) q_).hp, (((Sum.elim (fun (y1 : (List (List Int)) × (GMap Bs Int)) => (⟨[(2, .v (.one (.ptr 0 0))), (3, .v (.one (dI 0)))], [(0, .cells 72 [dA 3 y1.1, .mp 1]), (1, .mp (gmE y1.2.1) y1.2.2)], [(3, some ⟨54, 1, (Enc.encL y1.1).length, []⟩)], 4, 88, []⟩ : St)) (Sum.elim (fun (y2 : Unit) => (⟨[(2, .v (.one (.ptr 0 0))), (3, .v (.one (dI 8)))], [(0, .cells 72 [dN, .d (.v (.map none))])], [], 4, 88, []⟩ : St)) (fun (y3 : Unit) => (⟨[(2, .v (.one (.ptr 0 0))), (3, .v (.one (dI 9)))], [(0, .cells 72 [dN, .d (.v (.map none))])], [], 6, 88, []⟩ : St))))) q_).tk, (((Sum.elim (fun (y1 : (List (List Int)) × (GMap Bs Int)) => (⟨[(2, .v (.one (.ptr 0 0))), (3, .v (.one (dI 0)))], [(0, .cells 72 [dA 3 y1.1, .mp 1]), (1, .mp (gmE y1.2.1) y1.2.2)], [(3, some ⟨54, 1, (Enc.encL y1.1).length, []⟩)], 4, 88, []⟩ : St)) (Sum.elim (fun (y2 : Unit) => (⟨[(2, .v (.one (.ptr 0 0))), (3, .v (.one (dI 8)))], [(0, .cells 72 [dN, .d (.v (.map none))])], [], 4, 88, []⟩ : St)) (fun (y3 : Unit) => (⟨[(2, .v (.one (.ptr 0 0))), (3, .v (.one (dI 9)))], [(0, .cells 72 [dN, .d (.v (.map none))])], [], 6, 88, []⟩ : St))))) q_).nx⟩) hc4 h0 (fun y1 hc4 h0 => ?_) (fun z_ hc4 h0 => sumK (C := fun q_ => CallM Try.prog 34 [.one (dS a0)] ⟨[], [], 0⟩ (resOf (((Sum.elim (fun (y1 : (List (List Int)) × (GMap Bs Int)) => ([.agg [dA 3 y1.1, .mp 1], .one (dI 0)] : List AV)) (Sum.elim (fun (y2 : Unit) => ([.agg [dN, .d (.v (.map none))], .one (dI 8)] : List AV)) (fun (y3 : Unit) => ([.agg [dN, .d (.v (.map none))], .one (dI 9)] : List AV))))) (.inr q_))) ⟨(((Sum.elim (fun (y1 : (List (List Int)) × (GMap Bs Int)) => (⟨[(2, .v (.one (.ptr 0 0))), (3, .v (.one (dI 0)))], [(0, .cells 72 [dA 3 y1.1, .mp 1]), (1, .mp (gmE y1.2.1) y1.2.2)], [(3, some ⟨54, 1, (Enc.encL y1.1).length, []⟩)], 4, 88, []⟩ : St)) (Sum.elim (fun (y2 : Unit) => (⟨[(2, .v (.one (.ptr 0 0))), (3, .v (.one (dI 8)))], [(0, .cells 72 [dN, .d (.v (.map none))])], [], 4, 88, []⟩ : St)) (fun (y3 : Unit) => (⟨[(2, .v (.one (.ptr 0 0))), (3, .v (.one (dI 9)))], [(0, .cells 72 [dN, .d (.v (.map none))])], [], 6, 88, []⟩ : St))))) (.inr q_)).hp, (((Sum.elim (fun (y1 : (List (List Int)) × (GMap Bs Int)) => (⟨[(2, .v (.one (.ptr 0 0))), (3, .v (.one (dI 0)))], [(0, .cells 72 [dA 3 y1.1, .mp 1]), (1, .mp (gmE y1.2.1) y1.2.2)], [(3, some ⟨54, 1, (Enc.encL y1.1).length, []⟩)], 4, 88, []⟩ : St)) (Sum.elim (fun (y2 : Unit) => (⟨[(2, .v (.one (.ptr 0 0))), (3, .v (.one (dI 8)))], [(0, .cells 72 [dN, .d (.v (.map none))])], [], 4, 88, []⟩ : St)) (fun (y3 : Unit) => (⟨[(2, .v (.one (.ptr 0 0))), (3, .v (.one (dI 9)))], [(0, .cells 72 [dN, .d (.v (.map none))])], [], 6, 88, []⟩ : St))))) (.inr q_)).tk, (((Sum.elim (fun (y1 : (List (List Int)) × (GMap Bs Int)) => (⟨[(2, .v (.one (.ptr 0 0))), (3, .v (.one (dI 0)))], [(0, .cells 72 [dA 3 y1.1, .mp 1]), (1, .mp (gmE y1.2.1) y1.2.2)], [(3, some ⟨54, 1, (Enc.encL y1.1).length, []⟩)], 4, 88, []⟩ : St)) (Sum.elim (fun (y2 : Unit) => (⟨[(2, .v (.one (.ptr 0 0))), (3, .v (.one (dI 8)))], [(0, .cells 72 [dN, .d (.v (.map none))])], [], 4, 88, []⟩ : St)) (fun (y3 : Unit) => (⟨[(2, .v (.one (.ptr 0 0))), (3, .v (.one (dI 9)))], [(0, .cells 72 [dN, .d (.v (.map none))])], [], 6, 88, []⟩ : St))))) (.inr q_)).nx⟩) hc4 h0 (fun y2 hc4 h0 => ?_) (fun y3 hc4 h0 => ?_))
  ·
   replace hc4 : CallM Try.prog 34 [.one (dS a0)] ⟨[], [], 0⟩ (resOf [.agg [dA 3 y1.1, .mp 1], .one (dI 0)]) ⟨[(0, .cells 72 [dA 3 y1.1, .mp 1]), (1, .mp (gmE y1.2.1) y1.2.2)], [(3, some ⟨54, 1, (Enc.encL y1.1).length, []⟩)], 4⟩ := hc4
   refine XL.put rfl rfl (lb rfl) (OpOK.callW rfl rfl rfl hc4 rfl hZ kZ) <| rM rfl rfl rfl <| rR rfl rfl rfl (RO.extract rfl rfl) <| rR rfl rfl rfl (RO.extract rfl rfl) <| XL.put rfl rfl (lb rfl) (OpOK.alloc z_72 rfl) <| XL.eff rfl rfl (OpOK.store ag_72 rfl rfl rfl rfl (lb rfl) rfl) <| rA rfl rfl rfl <| XL.nil <| XQ.seq <| XC.seq <| XC.region <| rR rfl rfl rfl (RO.fieldOwn fo_72_0 rfl) <| rR rfl rfl rfl (RO.loadOwn ag_57 rfl rfl rfl) <| rM rfl rfl rfl ?_
   refine rA rfl rfl rfl <| rA rfl rfl rfl <| XL.nil <| XQ.seq <| XC.ret ?_
   have e_ := Option.some.inj h0
   subst e_
   exact XQ.retF (fun _ _ h => h) rfl (RAs.tmp rfl (RAs.tmp rfl .nil)) (.cons (.one (.app _ _ _)) (.cons (.one (.d _)) .nil))
  ·
   replace hc4 : CallM Try.prog 34 [.one (dS a0)] ⟨[], [], 0⟩ (resOf [.agg [dN, .d (.v (.map none))], .one (dI 8)]) ⟨[(0, .cells 72 [dN, .d (.v (.map none))])], [], 4⟩ := hc4
   refine XL.put rfl rfl (lb rfl) (OpOK.callW rfl rfl rfl hc4 rfl hZ kZ) <| rM rfl rfl rfl <| rR rfl rfl rfl (RO.extract rfl rfl) <| rR rfl rfl rfl (RO.extract rfl rfl) <| XL.put rfl rfl (lb rfl) (OpOK.alloc z_72 rfl) <| XL.eff rfl rfl (OpOK.store ag_72 rfl rfl rfl rfl (lb rfl) rfl) <| rA rfl rfl rfl <| XL.nil <| XQ.seq <| XC.seq <| XC.region <| rR rfl rfl rfl (RO.fieldOwn fo_72_0 rfl) <| rR rfl rfl rfl (RO.loadOwn ag_57 rfl rfl rfl) <| rM rfl rfl rfl ?_
   refine rA rfl rfl rfl <| rA rfl rfl rfl <| XL.nil <| XQ.seq <| XC.ret ?_
   have e_ := Option.some.inj h0
   subst e_
   exact XQ.retF (fun _ _ h => h) rfl (RAs.tmp rfl (RAs.tmp rfl .nil)) (.cons (.one (.nil _)) (.cons (.one (.d _)) .nil))
  ·
   replace hc4 : CallM Try.prog 34 [.one (dS a0)] ⟨[], [], 0⟩ (resOf [.agg [dN, .d (.v (.map none))], .one (dI 9)]) ⟨[(0, .cells 72 [dN, .d (.v (.map none))])], [], 6⟩ := hc4
   refine XL.put rfl rfl (lb rfl) (OpOK.callW rfl rfl rfl hc4 rfl hZ kZ) <| rM rfl rfl rfl <| rR rfl rfl rfl (RO.extract rfl rfl) <| rR rfl rfl rfl (RO.extract rfl rfl) <| XL.put rfl rfl (lb rfl) (OpOK.alloc z_72 rfl) <| XL.eff rfl rfl (OpOK.store ag_72 rfl rfl rfl rfl (lb rfl) rfl) <| rA rfl rfl rfl <| XL.nil <| XQ.seq <| XC.seq <| XC.region <| rR rfl rfl rfl (RO.fieldOwn fo_72_0 rfl) <| rR rfl rfl rfl (RO.loadOwn ag_57 rfl rfl rfl) <| rM rfl rfl rfl ?_
   refine rA rfl rfl rfl <| rA rfl rfl rfl <| XL.nil <| XQ.seq <| XC.ret ?_
   have e_ := Option.some.inj h0
   subst e_
   exact XQ.retF (fun _ _ h => h) rfl (RAs.tmp rfl (RAs.tmp rfl .nil)) (.cons (.one (.nil _)) (.cons (.one (.d _)) .nil))
end Go.Proofs.Ytijcchddnnnmdaa
namespace Go.Proofs.Ytijcchddnnnmdaa
open Go.RowKit Go.Shelf
set_option linter.unusedSimpArgs false
set_option linter.unusedVariables false
theorem en_25 : Enters Try.prog 25 := enters_of Try.func25 (by kernel_rfl) rfl
theorem en_46 : Enters Try.prog 46 := enters_of Try.func46 (by kernel_rfl) rfl
theorem en_48 : Enters Try.prog 48 := enters_of Try.func48 (by kernel_rfl) rfl
theorem en_49 : Enters Try.prog 49 := enters_of Try.func49 (by kernel_rfl) rfl
def m48_l0 (a0 : List Dcl) (a1 : Bs) (s1 : Int) : Option (LO Int (Unit ⊕ Int)) :=
  cond (decide (s1 < (a0.length : Int)))
    (Option.bind (idx a0 s1) fun (x3 : Dcl) =>
  Option.bind (m18 x3) fun (x4 : (List Bs)) =>
  Option.bind (m61 x4 a1) fun (x5 : Bool) =>
  cond x5
    (some (.done (.inr s1)))
    (some (.next (w64 (s1 + 1)))))
    (some (.done (.inl ())))
def m48 (a0 : List Dcl) (a1 : Bs) : Option Int :=
  Option.bind (loopN (m48_l0 a0 a1) FUEL 0) (Sum.elim (fun (o1 : Unit) => some (-1)) (fun o => some o))
set_option maxRecDepth 100000 in
set_option maxHeartbeats 8000000 in
theorem m48_ok (a0 : List Dcl) (a1 : Bs) (r : Int) (h0 : m48 a0 a1 = some r) : Fun Try.prog 48 [.one (dS a0), .one (dS8 a1)] (resOf [.one (dI r)]) := by
  unfold m48 at h0
  refine Fun.of_bodyM 9 20 Try.func48 rfl en_48 rfl (lb rfl) (fun S w => ?_)
  simp only [entry]
  refine XC.seq <| XC.region <| rA rfl rfl rfl <| XL.nil <| XQ.seq <| XC.seq <| XC.seq <| XC.region <| rA rfl rfl rfl <| XL.nil <| XQ.seq <| XC.block ?_
  refine XC.joinX 0 (fun (o1 : Unit) => ⟨[], [], [], 0, 20, []⟩) (fun (o1 : Unit) => (some (-1)) = some r) ?_ ?_
  ·
   refine bindK h0 (fun o2 hl1 h0 => ?_)
   refine XC.loopM (m48_l0 a0 a1) (fun s1 => ⟨[(0, .v (.one (dS a0))), (1, .v (.one (dS8 a1))), (5, .v (.one (dI s1)))], [], [], 0, 20, []⟩) 0 o2 (stle (tR rfl (tR rfl (tR rfl tZ))) hZ kZ rfl (Nat.zero_le _) rfl rfl rfl bZ rfl rfl) hl1 (fun s1 n1 oo1 h1 ho1 => ?_)
   unfold m48_l0 at h1
   refine XC.seq <| XC.seq <| XC.region <| rM rfl rfl rfl <| rM rfl rfl rfl <| rR rfl rfl rfl (RO.lenE (α := Dcl) sl_22 rfl (.d _)) <| rR rfl rfl rfl (RO.binInt rfl rfl rfl) <| XL.nil <| XQ.seq ?_
   refine XC.cond (b := (decide (s1 < (a0.length : Int)))) rfl (fun c3 => ?_) (fun c3 => ?_)
   ·
    replace h1 := condT c3 h1
    refine XC.skip <| XQ.seq <| XC.seq <| XC.block <| XC.seq <| XC.region <| rM rfl rfl rfl <| rM rfl rfl rfl ?_
    refine bindK h1 (fun x4 hx4 h1 => ?_)
    refine rR rfl rfl rfl (RO.indexE (α := Dcl) sl_22 rfl (.d _) rfl hx4) <| rR rfl rfl rfl (RO.loadPelAgg ag_48 rfl rfl rfl) ?_
    refine bindK h1 (fun x5 hx5 h1 => ?_)
    refine XL.put rfl rfl (lb rfl) (OpOK.callFun (m18_ok x4 x5 hx5) rfl (.cons (.agg (.cons (.d _) (.cons (.d _) (.cons (.d _) (.cons (.d _) (.cons (.d _) (.cons (.d _) (.cons (.d _) (.cons (.d _) (.cons (.d _) (.cons (.d _) (.cons (.d _) (.cons (.d _) (.cons (.d _) (.cons (.d _) (.cons (.d _) (.cons (.d _) (.cons (.d _) (.cons (.d _) (.cons (.d _) (.cons (.d _) (.cons (.d _) (.cons (.d _) (.cons (.d _) .nil)))))))))))))))))))))))) .nil)) <| rM rfl rfl rfl ?_
    refine bindK h1 (fun x6 hx6 h1 => ?_)
    refine XL.put rfl rfl (lb rfl) (OpOK.callFun (m61_ok x5 a1 x6 hx6) rfl (.cons (.one (.d _)) (.cons (.one (.d _)) .nil))) <| XL.nil <| XQ.seq ?_
    refine XC.cond (b := x6) rfl (fun c7 => ?_) (fun c7 => ?_)
    ·
     replace h1 := condT c7 h1
     refine XC.seq <| XC.region <| rM rfl rfl rfl <| rA rfl rfl rfl <| XL.nil <| XQ.seq <| XC.ret ?_
     have e_ := Option.some.inj h1
     subst e_
     have e_ : _ = _ := ho1
     subst e_
     try dsimp only [Sum.elim_inl, Sum.elim_inr] at h0
     have e_ := Option.some.inj h0
     subst e_
     exact XQ.retF (fun _ _ h => h) rfl (RAs.tmp rfl .nil) (.cons (.one (.d _)) .nil)
    ·
     replace h1 := condF c7 h1
     refine XC.skip <| XQ.inBlock <| XQ.seq <| XC.region <| rM rfl rfl rfl <| rR rfl rfl rfl (RO.binInt rfl rfl rfl) <| rA rfl rfl rfl <| XL.nil ?_
     have e_ := Option.some.inj h1
     subst e_
     refine XQ.nextM (w64 (s1 + 1)) (stle (tR rfl (tR rfl (tR rfl tZ))) hZ kZ rfl (Nat.zero_le _) rfl rfl rfl bZ rfl rfl) ho1
   ·
    replace h1 := condF c3 h1
    refine XC.exit <| XQ.thenE <| XQ.thenE ?_
    have e_ := Option.some.inj h1
    subst e_
    have e_ : _ = _ := ho1
    subst e_
    exact XQ.joinX () (stle tZ hZ kZ rfl (Nat.zero_le _) rfl rfl rfl bZ rfl rfl) h0
  ·
   intro o1 h0
   refine XQ.blockX <| XQ.seq <| XC.seq <| XC.region <| rA rfl rfl rfl <| XL.nil <| XQ.seq <| XC.ret ?_
   have e_ := Option.some.inj h0
   subst e_
   exact XQ.retF (fun _ _ h => h) rfl (RAs.tmp rfl .nil) (.cons (.one (.d _)) .nil)
def m46_l0 (x4 : (List Bs)) (s2 : (List Bs) × Int) : Option (LO ((List Bs) × Int) (((List Bs)) ⊕ Int)) :=
  cond (decide (s2.2 < (x4.length : Int)))
    (Option.bind (idx x4 s2.2) fun (x7 : Bs) =>
  Option.bind (m61 s2.1 x7) fun (x8 : Bool) =>
  cond x8
    (some (.done (.inr 8)))
    (Option.bind (idx x4 s2.2) fun (x10 : Bs) =>
  guardO (Nat.ble (s2.1.length + ([x10]).length) 1000000000)
  (some (.next ((s2.1 ++ ([x10])), (w64 (s2.2 + 1)))))))
    (some (.done (.inl s2.1)))
def m46_l1 (a0 : List Dcl) (s1 : (List Bs) × Int) : Option (LO ((List Bs) × Int) (((List Bs)) ⊕ Int)) :=
  cond (decide (s1.2 < (a0.length : Int)))
    (Option.bind (idx a0 s1.2) fun (x3 : Dcl) =>
  Option.bind (m18 x3) fun (x4 : (List Bs)) =>
  Option.bind (loopN (m46_l0 x4) FUEL (s1.1, 0)) (Sum.elim (fun (o5 : (List Bs)) => some (.next (o5, (w64 (s1.2 + 1))))) (fun o => some (.done (.inr o)))))
    (some (.done (.inl s1.1)))
def m46_l2 (x5 : (List Bs)) (o1 : (List Bs)) (s2 : Int) : Option (LO Int (Unit ⊕ Int)) :=
  cond (decide (s2 < (x5.length : Int)))
    (Option.bind (idx x5 s2) fun (x8 : Bs) =>
  Option.bind (m61 o1 x8) fun (x9 : Bool) =>
  cond (!x9)
    (some (.done (.inr 9)))
    (some (.next (w64 (s2 + 1)))))
    (some (.done (.inl ())))
def m46_l3 (a0 : List Dcl) (o1 : (List Bs)) (s1 : Int) : Option (LO Int (Unit ⊕ Int)) :=
  cond (decide (s1 < (a0.length : Int)))
    (Option.bind (idx a0 s1) fun (x4 : Dcl) =>
  Option.bind (m47 x4) fun (x5 : (List Bs)) =>
  Option.bind (loopN (m46_l2 x5 o1) FUEL 0) (Sum.elim (fun (o6 : Unit) => some (.next (w64 (s1 + 1)))) (fun o => some (.done (.inr o)))))
    (some (.done (.inl ())))
def m46 (a0 : List Dcl) : Option Int :=
  Option.bind (loopN (m46_l1 a0) FUEL (([] : List Bs), 0)) (Sum.elim (fun (o1 : (List Bs)) => Option.bind (loopN (m46_l3 a0 o1) FUEL 0) (Sum.elim (fun (o2 : Unit) => some 0) (fun o => some o))) (fun o => some o))
set_option maxRecDepth 100000 in
set_option maxHeartbeats 8000000 in
theorem m46_ok (a0 : List Dcl) (r : Int) (h0 : m46 a0 = some r) : Fun Try.prog 46 [.one (dS a0)] (resOf [.one (dI r)]) := by
  unfold m46 at h0
  refine Fun.of_bodyM 9 64 Try.func46 rfl en_46 rfl (lb rfl) (fun S w => ?_)
  simp only [entry]
  refine XC.seq <| XC.region <| rA rfl rfl rfl <| XL.nil <| XQ.seq <| XC.seq <| XC.region <| rA rfl rfl rfl <| XL.nil <| XQ.seq <| XC.seq <| XC.seq <| XC.region <| rA rfl rfl rfl ?_
  refine XL.nil <| XQ.seq <| XC.block ?_
  refine XC.joinX 0 (fun (o1 : (List Bs)) => ⟨[(0, .v (.one (dS a0))), (3, .v (.one (dA 0 o1)))], [], [(0, some ⟨9, 1, (Enc.encL o1).length, []⟩)], 1, 64, []⟩) (fun (o1 : (List Bs)) => (Option.bind (loopN (m46_l3 a0 o1) FUEL 0) (Sum.elim (fun (o2 : Unit) => some 0) (fun o => some o))) = some r) ?_ ?_
  ·
   refine XC.adoptT (t := 3) 9 1 rfl ?_
   refine bindK h0 (fun o2 hl1 h0 => ?_)
   refine XC.loopM (m46_l1 a0) (fun s1 => ⟨[(0, .v (.one (dS a0))), (3, .v (.one (dA 0 s1.1))), (4, .v (.one (dI s1.2)))], [], [(0, some ⟨9, 1, (Enc.encL s1.1).length, []⟩)], 1, 64, []⟩) (([] : List Bs), 0) o2 (stle (tR rfl (tR rfl (tR rfl tZ))) hZ (kR rfl kZ) rfl (Nat.zero_le _) rfl rfl rfl bZ rfl rfl) hl1 (fun s1 n1 oo1 h1 ho1 => ?_)
   unfold m46_l1 at h1
   refine XC.seq <| XC.seq <| XC.region <| rM rfl rfl rfl <| rM rfl rfl rfl <| rR rfl rfl rfl (RO.lenE (α := Dcl) sl_22 rfl (.d _)) <| rR rfl rfl rfl (RO.binInt rfl rfl rfl) <| XL.nil <| XQ.seq ?_
   refine XC.cond (b := (decide (s1.2 < (a0.length : Int)))) rfl (fun c3 => ?_) (fun c3 => ?_)
   ·
    replace h1 := condT c3 h1
    refine XC.skip <| XQ.seq <| XC.seq <| XC.block <| XC.seq <| XC.region <| rM rfl rfl rfl <| rM rfl rfl rfl ?_
    refine bindK h1 (fun x4 hx4 h1 => ?_)
    refine rR rfl rfl rfl (RO.indexE (α := Dcl) sl_22 rfl (.d _) rfl hx4) <| rR rfl rfl rfl (RO.loadPelAgg ag_48 rfl rfl rfl) ?_
    refine bindK h1 (fun x5 hx5 h1 => ?_)
    refine XL.put rfl rfl (lb rfl) (OpOK.callFun (m18_ok x4 x5 hx5) rfl (.cons (.agg (.cons (.d _) (.cons (.d _) (.cons (.d _) (.cons (.d _) (.cons (.d _) (.cons (.d _) (.cons (.d _) (.cons (.d _) (.cons (.d _) (.cons (.d _) (.cons (.d _) (.cons (.d _) (.cons (.d _) (.cons (.d _) (.cons (.d _) (.cons (.d _) (.cons (.d _) (.cons (.d _) (.cons (.d _) (.cons (.d _) (.cons (.d _) (.cons (.d _) (.cons (.d _) .nil)))))))))))))))))))))))) .nil)) <| rA rfl rfl rfl <| XL.nil <| XQ.seq <| XC.seq <| XC.region <| rA rfl rfl rfl <| XL.nil <| XQ.seq <| XC.block ?_
    refine XC.joinX 2 (fun (o6 : (List Bs)) => ⟨[(0, .v (.one (dS a0))), (3, .v (.one (dA 0 o6))), (4, .v (.one (dI s1.2)))], [], [(0, some ⟨9, 1, (Enc.encL o6).length, []⟩)], 1, 64, []⟩) (fun (o6 : (List Bs)) => (some (.next (o6, (w64 (s1.2 + 1))))) = some oo1) ?_ ?_
    ·
     refine bindK h1 (fun o7 hl2 h1 => ?_)
     refine XC.loopM (m46_l0 x5) (fun s2 => ⟨[(0, .v (.one (dS a0))), (3, .v (.one (dA 0 s2.1))), (4, .v (.one (dI s1.2))), (5, .v (.one (dS x5))), (6, .v (.one (dI s2.2)))], [], [(0, some ⟨9, 1, (Enc.encL s2.1).length, []⟩)], 1, 64, []⟩) (s1.1, 0) o7 (stle (tR rfl (tR rfl (tR rfl (tR rfl (tR rfl tZ))))) hZ (kR rfl kZ) rfl (Nat.zero_le _) rfl rfl rfl bZ rfl rfl) hl2 (fun s2 n2 oo2 h2 ho2 => ?_)
     unfold m46_l0 at h2
     refine XC.seq <| XC.seq <| XC.region <| rM rfl rfl rfl <| rM rfl rfl rfl <| rR rfl rfl rfl (RO.lenE (α := Bs) sl_23 rfl (.d _)) <| rR rfl rfl rfl (RO.binInt rfl rfl rfl) <| XL.nil <| XQ.seq ?_
     refine XC.cond (b := (decide (s2.2 < (x5.length : Int)))) rfl (fun c8 => ?_) (fun c8 => ?_)
     ·
      replace h2 := condT c8 h2
      refine XC.skip <| XQ.seq <| XC.seq <| XC.block <| XC.seq <| XC.seq <| XC.region <| rM rfl rfl rfl <| rM rfl rfl rfl <| rM rfl rfl rfl ?_
      refine bindK h2 (fun x9 hx9 h2 => ?_)
      refine rR rfl rfl rfl (RO.indexE (α := Bs) sl_23 rfl (.d _) rfl hx9) <| rR rfl rfl rfl (RO.loadPel ag_9 rfl rfl) ?_
      refine bindK h2 (fun x10 hx10 h2 => ?_)
      refine XL.put rfl rfl (lb rfl) (OpOK.callFun (m61_ok s2.1 x9 x10 hx10) rfl (.cons (.one (.app _ _ _)) (.cons (.one (.d _)) .nil))) <| XL.nil <| XQ.seq ?_
      refine XC.cond (b := x10) rfl (fun c11 => ?_) (fun c11 => ?_)
      ·
       replace h2 := condT c11 h2
       refine XC.seq <| XC.region <| rA rfl rfl rfl <| XL.nil <| XQ.seq <| XC.ret ?_
       have e_ := Option.some.inj h2
       subst e_
       have e_ : _ = _ := ho2
       subst e_
       try dsimp only [Sum.elim_inl, Sum.elim_inr] at h1
       have e_ := Option.some.inj h1
       subst e_
       have e_ : _ = _ := ho1
       subst e_
       try dsimp only [Sum.elim_inl, Sum.elim_inr] at h0
       have e_ := Option.some.inj h0
       subst e_
       exact XQ.retF (fun _ _ h => h) rfl (RAs.tmp rfl .nil) (.cons (.one (.d _)) .nil)
      ·
       replace h2 := condF c11 h2
       refine XC.skip <| XQ.seq <| XC.region <| rM rfl rfl rfl <| rM rfl rfl rfl <| rM rfl rfl rfl ?_
       refine bindK h2 (fun x12 hx12 h2 => ?_)
       refine rR rfl rfl rfl (RO.indexE (α := Bs) sl_23 rfl (.d _) rfl hx12) <| rR rfl rfl rfl (RO.loadPel ag_9 rfl rfl) <| XL.put rfl rfl (lb rfl) (OpOK.lit1E (α := Bs) (x12) sl_23 z_9 rfl rfl (lb rfl) (lb rfl) rfl rfl (.cons (.d _) .nil) rfl) ?_
       refine guardK h2 (fun g13 h2 => ?_)
       refine XL.put rfl rfl (lb rfl) (OpOK.appendE (α := Bs) sl_23 el_9 rfl rfl rfl rfl rfl (.app _ _) g13) <| rA rfl rfl rfl <| XL.nil <| XQ.inBlock <| XQ.seq <| XC.region <| rM rfl rfl rfl <| rR rfl rfl rfl (RO.binInt rfl rfl rfl) <| rA rfl rfl rfl <| XL.nil ?_
       have e_ := Option.some.inj h2
       subst e_
       refine XQ.nextM ((s2.1 ++ ([x12])), (w64 (s2.2 + 1))) (stle (tR rfl (tR rfl (tR rfl (tR rfl (tR rfl tZ))))) hZ (kR rfl kZ) rfl (Nat.zero_le _) rfl rfl rfl bZ rfl rfl) ho2
     ·
      replace h2 := condF c8 h2
      refine XC.exit <| XQ.thenE <| XQ.thenE ?_
      have e_ := Option.some.inj h2
      subst e_
      have e_ : _ = _ := ho2
      subst e_
      exact XQ.joinX s2.1 (stle (tR rfl (tR rfl (tR rfl tZ))) hZ (kR rfl kZ) rfl (Nat.zero_le _) rfl rfl rfl bZ rfl rfl) h1
    ·
     intro o6 h1
     refine XQ.blockX <| XQ.inBlock <| XQ.seq <| XC.region <| rM rfl rfl rfl <| rR rfl rfl rfl (RO.binInt rfl rfl rfl) <| rA rfl rfl rfl <| XL.nil ?_
     have e_ := Option.some.inj h1
     subst e_
     refine XQ.nextM (o6, (w64 (s1.2 + 1))) (stle (tR rfl (tR rfl (tR rfl tZ))) hZ (kR rfl kZ) rfl (Nat.zero_le _) rfl rfl rfl bZ rfl rfl) ho1
   ·
    replace h1 := condF c3 h1
    refine XC.exit <| XQ.thenE <| XQ.thenE ?_
    have e_ := Option.some.inj h1
    subst e_
    have e_ : _ = _ := ho1
    subst e_
    exact XQ.joinX s1.1 (stle (tR rfl (tR rfl tZ)) hZ (kR rfl kZ) rfl (Nat.zero_le _) rfl rfl rfl bZ rfl rfl) h0
  ·
   intro o1 h0
   refine XQ.blockX <| XQ.seq <| XC.seq <| XC.seq <| XC.region <| rA rfl rfl rfl <| XL.nil <| XQ.seq <| XC.block ?_
   refine XC.joinX 4 (fun (o14 : Unit) => ⟨[], [], [(0, some ⟨9, 1, (Enc.encL o1).length, []⟩)], 1, 64, []⟩) (fun (o14 : Unit) => (some 0) = some r) ?_ ?_
   ·
    refine bindK h0 (fun o15 hl1 h0 => ?_)
    refine XC.loopM (m46_l3 a0 o1) (fun s1 => ⟨[(0, .v (.one (dS a0))), (3, .v (.one (dA 0 o1))), (7, .v (.one (dI s1)))], [], [(0, some ⟨9, 1, (Enc.encL o1).length, []⟩)], 1, 64, []⟩) 0 o15 (stle (tR rfl (tR rfl (tR rfl tZ))) hZ (kR rfl kZ) rfl (Nat.zero_le _) rfl rfl rfl bZ rfl rfl) hl1 (fun s1 n1 oo1 h1 ho1 => ?_)
    unfold m46_l3 at h1
    refine XC.seq <| XC.seq <| XC.region <| rM rfl rfl rfl <| rM rfl rfl rfl <| rR rfl rfl rfl (RO.lenE (α := Dcl) sl_22 rfl (.d _)) <| rR rfl rfl rfl (RO.binInt rfl rfl rfl) <| XL.nil <| XQ.seq ?_
    refine XC.cond (b := (decide (s1 < (a0.length : Int)))) rfl (fun c16 => ?_) (fun c16 => ?_)
    ·
     replace h1 := condT c16 h1
     refine XC.skip <| XQ.seq <| XC.seq <| XC.block <| XC.seq <| XC.region <| rM rfl rfl rfl <| rM rfl rfl rfl ?_
     refine bindK h1 (fun x17 hx17 h1 => ?_)
     refine rR rfl rfl rfl (RO.indexE (α := Dcl) sl_22 rfl (.d _) rfl hx17) <| rR rfl rfl rfl (RO.loadPelAgg ag_48 rfl rfl rfl) ?_
     refine bindK h1 (fun x18 hx18 h1 => ?_)
     refine XL.put rfl rfl (lb rfl) (OpOK.callFun (m47_ok x17 x18 hx18) rfl (.cons (.agg (.cons (.d _) (.cons (.d _) (.cons (.d _) (.cons (.d _) (.cons (.d _) (.cons (.d _) (.cons (.d _) (.cons (.d _) (.cons (.d _) (.cons (.d _) (.cons (.d _) (.cons (.d _) (.cons (.d _) (.cons (.d _) (.cons (.d _) (.cons (.d _) (.cons (.d _) (.cons (.d _) (.cons (.d _) (.cons (.d _) (.cons (.d _) (.cons (.d _) (.cons (.d _) .nil)))))))))))))))))))))))) .nil)) <| rA rfl rfl rfl <| XL.nil <| XQ.seq <| XC.seq <| XC.region <| rA rfl rfl rfl <| XL.nil <| XQ.seq <| XC.block ?_
     refine XC.joinX 6 (fun (o19 : Unit) => ⟨[(0, .v (.one (dS a0))), (3, .v (.one (dA 0 o1))), (7, .v (.one (dI s1)))], [], [(0, some ⟨9, 1, (Enc.encL o1).length, []⟩)], 1, 64, []⟩) (fun (o19 : Unit) => (some (.next (w64 (s1 + 1)))) = some oo1) ?_ ?_
     ·
      refine bindK h1 (fun o20 hl2 h1 => ?_)
      refine XC.loopM (m46_l2 x18 o1) (fun s2 => ⟨[(0, .v (.one (dS a0))), (3, .v (.one (dA 0 o1))), (7, .v (.one (dI s1))), (8, .v (.one (dS x18))), (9, .v (.one (dI s2)))], [], [(0, some ⟨9, 1, (Enc.encL o1).length, []⟩)], 1, 64, []⟩) 0 o20 (stle (tR rfl (tR rfl (tR rfl (tR rfl (tR rfl tZ))))) hZ (kR rfl kZ) rfl (Nat.zero_le _) rfl rfl rfl bZ rfl rfl) hl2 (fun s2 n2 oo2 h2 ho2 => ?_)
      unfold m46_l2 at h2
      refine XC.seq <| XC.seq <| XC.region <| rM rfl rfl rfl <| rM rfl rfl rfl <| rR rfl rfl rfl (RO.lenE (α := Bs) sl_23 rfl (.d _)) <| rR rfl rfl rfl (RO.binInt rfl rfl rfl) <| XL.nil <| XQ.seq ?_
      refine XC.cond (b := (decide (s2 < (x18.length : Int)))) rfl (fun c21 => ?_) (fun c21 => ?_)
      ·
       replace h2 := condT c21 h2
       refine XC.skip <| XQ.seq <| XC.seq <| XC.block <| XC.seq <| XC.region <| rM rfl rfl rfl <| rM rfl rfl rfl <| rM rfl rfl rfl ?_
       refine bindK h2 (fun x22 hx22 h2 => ?_)
       refine rR rfl rfl rfl (RO.indexE (α := Bs) sl_23 rfl (.d _) rfl hx22) <| rR rfl rfl rfl (RO.loadPel ag_9 rfl rfl) ?_
       refine bindK h2 (fun x23 hx23 h2 => ?_)
       refine XL.put rfl rfl (lb rfl) (OpOK.callFun (m61_ok o1 x22 x23 hx23) rfl (.cons (.one (.app _ _ _)) (.cons (.one (.d _)) .nil))) <| rR rfl rfl rfl (RO.not rfl) <| XL.nil <| XQ.seq ?_
       refine XC.cond (b := (!x23)) rfl (fun c24 => ?_) (fun c24 => ?_)
       ·
        replace h2 := condT c24 h2
        refine XC.seq <| XC.region <| rA rfl rfl rfl <| XL.nil <| XQ.seq <| XC.ret ?_
        have e_ := Option.some.inj h2
        subst e_
        have e_ : _ = _ := ho2
        subst e_
        try dsimp only [Sum.elim_inl, Sum.elim_inr] at h1
        have e_ := Option.some.inj h1
        subst e_
        have e_ : _ = _ := ho1
        subst e_
        try dsimp only [Sum.elim_inl, Sum.elim_inr] at h0
        have e_ := Option.some.inj h0
        subst e_
        exact XQ.retF (fun _ _ h => h) rfl (RAs.tmp rfl .nil) (.cons (.one (.d _)) .nil)
       ·
        replace h2 := condF c24 h2
        refine XC.skip <| XQ.inBlock <| XQ.seq <| XC.region <| rM rfl rfl rfl <| rR rfl rfl rfl (RO.binInt rfl rfl rfl) <| rA rfl rfl rfl <| XL.nil ?_
        have e_ := Option.some.inj h2
        subst e_
        refine XQ.nextM (w64 (s2 + 1)) (stle (tR rfl (tR rfl (tR rfl (tR rfl (tR rfl tZ))))) hZ (kR rfl kZ) rfl (Nat.zero_le _) rfl rfl rfl bZ rfl rfl) ho2
      ·
       replace h2 := condF c21 h2
       refine XC.exit <| XQ.thenE <| XQ.thenE ?_
       have e_ := Option.some.inj h2
       subst e_
       have e_ : _ = _ := ho2
       subst e_
       exact XQ.joinX () (stle (tR rfl (tR rfl (tR rfl tZ))) hZ (kR rfl kZ) rfl (Nat.zero_le _) rfl rfl rfl bZ rfl rfl) h1
     ·
      intro o19 h1
      refine XQ.blockX <| XQ.inBlock <| XQ.seq <| XC.region <| rM rfl rfl rfl <| rR rfl rfl rfl (RO.binInt rfl rfl rfl) <| rA rfl rfl rfl <| XL.nil ?_
      have e_ := Option.some.inj h1
      subst e_
      refine XQ.nextM (w64 (s1 + 1)) (stle (tR rfl (tR rfl (tR rfl tZ))) hZ (kR rfl kZ) rfl (Nat.zero_le _) rfl rfl rfl bZ rfl rfl) ho1
    ·
     replace h1 := condF c16 h1
     refine XC.exit <| XQ.thenE <| XQ.thenE ?_
     have e_ := Option.some.inj h1
     subst e_
     have e_ : _ = _ := ho1
     subst e_
     exact XQ.joinX () (stle tZ hZ (kR rfl kZ) rfl (Nat.zero_le _) rfl rfl rfl bZ rfl rfl) h0
   ·
    intro o14 h0
    refine XQ.blockX <| XQ.seq <| XC.seq <| XC.region <| rA rfl rfl rfl <| XL.nil <| XQ.seq <| XC.ret ?_
    have e_ := Option.some.inj h0
    subst e_
    exact XQ.retF (fun _ _ h => h) rfl (RAs.tmp rfl .nil) (.cons (.one (.d _)) .nil)
def m49_l0 (a0 : List Int) (a1 : Int) (s1 : Int) : Option (LO Int (Unit ⊕ Bool)) :=
  cond (decide (s1 < (a0.length : Int)))
    (Option.bind (idx a0 s1) fun (x3 : Int) =>
  cond (x3 == a1)
    (some (.done (.inr true)))
    (some (.next (w64 (s1 + 1)))))
    (some (.done (.inl ())))
def m49 (a0 : List Int) (a1 : Int) : Option Bool :=
  Option.bind (loopN (m49_l0 a0 a1) FUEL 0) (Sum.elim (fun (o1 : Unit) => some false) (fun o => some o))
set_option maxRecDepth 100000 in
set_option maxHeartbeats 8000000 in
theorem m49_ok (a0 : List Int) (a1 : Int) (r : Bool) (h0 : m49 a0 a1 = some r) : Fun Try.prog 49 [.one (dS a0), .one (dI a1)] (resOf [.one (dB r)]) := by
  unfold m49 at h0
  refine Fun.of_bodyM 9 18 Try.func49 rfl en_49 rfl (lb rfl) (fun S w => ?_)
  simp only [entry]
  refine XC.seq <| XC.region <| rA rfl rfl rfl <| XL.nil <| XQ.seq <| XC.seq <| XC.seq <| XC.region <| rA rfl rfl rfl <| XL.nil <| XQ.seq <| XC.block ?_
  refine XC.joinX 0 (fun (o1 : Unit) => ⟨[], [], [], 0, 18, []⟩) (fun (o1 : Unit) => (some false) = some r) ?_ ?_
  ·
   refine bindK h0 (fun o2 hl1 h0 => ?_)
   refine XC.loopM (m49_l0 a0 a1) (fun s1 => ⟨[(0, .v (.one (dS a0))), (1, .v (.one (dI a1))), (5, .v (.one (dI s1)))], [], [], 0, 18, []⟩) 0 o2 (stle (tR rfl (tR rfl (tR rfl tZ))) hZ kZ rfl (Nat.zero_le _) rfl rfl rfl bZ rfl rfl) hl1 (fun s1 n1 oo1 h1 ho1 => ?_)
   unfold m49_l0 at h1
   refine XC.seq <| XC.seq <| XC.region <| rM rfl rfl rfl <| rM rfl rfl rfl <| rR rfl rfl rfl (RO.lenE (α := Int) sl_54 rfl (.d _)) <| rR rfl rfl rfl (RO.binInt rfl rfl rfl) <| XL.nil <| XQ.seq ?_
   refine XC.cond (b := (decide (s1 < (a0.length : Int)))) rfl (fun c3 => ?_) (fun c3 => ?_)
   ·
    replace h1 := condT c3 h1
    refine XC.skip <| XQ.seq <| XC.seq <| XC.block <| XC.seq <| XC.region <| rM rfl rfl rfl <| rM rfl rfl rfl ?_
    refine bindK h1 (fun x4 hx4 h1 => ?_)
    refine rR rfl rfl rfl (RO.indexE (α := Int) sl_54 rfl (.d _) rfl hx4) <| rR rfl rfl rfl (RO.loadPel ag_3 rfl rfl) <| rM rfl rfl rfl <| rR rfl rfl rfl (RO.binInt rfl rfl rfl) <| XL.nil <| XQ.seq ?_
    refine XC.cond (b := (x4 == a1)) rfl (fun c5 => ?_) (fun c5 => ?_)
    ·
     replace h1 := condT c5 h1
     refine XC.seq <| XC.region <| rA rfl rfl rfl <| XL.nil <| XQ.seq <| XC.ret ?_
     have e_ := Option.some.inj h1
     subst e_
     have e_ : _ = _ := ho1
     subst e_
     try dsimp only [Sum.elim_inl, Sum.elim_inr] at h0
     have e_ := Option.some.inj h0
     subst e_
     exact XQ.retF (fun _ _ h => h) rfl (RAs.tmp rfl .nil) (.cons (.one (.d _)) .nil)
    ·
     replace h1 := condF c5 h1
     refine XC.skip <| XQ.inBlock <| XQ.seq <| XC.region <| rM rfl rfl rfl <| rR rfl rfl rfl (RO.binInt rfl rfl rfl) <| rA rfl rfl rfl <| XL.nil ?_
     have e_ := Option.some.inj h1
     subst e_
     refine XQ.nextM (w64 (s1 + 1)) (stle (tR rfl (tR rfl (tR rfl tZ))) hZ kZ rfl (Nat.zero_le _) rfl rfl rfl bZ rfl rfl) ho1
   ·
    replace h1 := condF c3 h1
    refine XC.exit <| XQ.thenE <| XQ.thenE ?_
    have e_ := Option.some.inj h1
    subst e_
    have e_ : _ = _ := ho1
    subst e_
    exact XQ.joinX () (stle tZ hZ kZ rfl (Nat.zero_le _) rfl rfl rfl bZ rfl rfl) h0
  ·
   intro o1 h0
   refine XQ.blockX <| XQ.seq <| XC.seq <| XC.region <| rA rfl rfl rfl <| XL.nil <| XQ.seq <| XC.ret ?_
   have e_ := Option.some.inj h0
   subst e_
   exact XQ.retF (fun _ _ h => h) rfl (RAs.tmp rfl .nil) (.cons (.one (.d _)) .nil)
def m25_l0 (x6 : (List Bs)) (a0 : List Dcl) (s2 : (List Int) × Int) : Option (LO ((List Int) × Int) (((List Int)))) :=
  cond (decide (s2.2 < (x6.length : Int)))
    (Option.bind (idx x6 s2.2) fun (x9 : Bs) =>
  Option.bind (m48 a0 x9) fun (x10 : Int) =>
  guardO (Nat.ble (s2.1.length + ([x10]).length) 1000000000)
  (some (.next ((s2.1 ++ ([x10])), (w64 (s2.2 + 1))))))
    (some (.done s2.1))
def m25_l1 (a0 : List Dcl) (o7 : (List Int)) (s2 : (List Int) × Int) : Option (LO ((List Int) × Int) (((List Int)))) :=
  cond (decide (s2.2 < (a0.length : Int)))
    (Option.bind (m49 o7 s2.2) fun (x10 : Bool) =>
  cond x10
    (guardO (Nat.ble (s2.1.length + ([s2.2]).length) 1000000000)
  (some (.next ((s2.1 ++ ([s2.2])), (w64 (s2.2 + 1))))))
    (some (.next (s2.1, (w64 (s2.2 + 1))))))
    (some (.done s2.1))
def m25_l2 (a0 : List Dcl) (s1 : (List (List Int)) × Int) : Option (LO ((List (List Int)) × Int) (((List (List Int))))) :=
  cond (decide (s1.2 < (a0.length : Int)))
    (Option.bind (idx a0 s1.2) fun (x5 : Dcl) =>
  Option.bind (m47 x5) fun (x6 : (List Bs)) =>
  Option.bind (loopN (m25_l0 x6 a0) FUEL (([] : List Int), 0)) (fun (o7 : (List Int)) => Option.bind (loopN (m25_l1 a0 o7) FUEL (([] : List Int), 0)) (fun (o8 : (List Int)) => guardO (Nat.ble (s1.1.length + ([o8]).length) 1000000000)
  (some (.next ((s1.1 ++ ([o8])), (w64 (s1.2 + 1))))))))
    (some (.done s1.1))
def m25 (a0 : List Dcl) : Option ((List (List Int)) × Int) :=
  Option.bind (m46 a0) fun (x1 : Int) =>
  cond (x1 != 0)
    (some (([] : List (List Int)), x1))
    (Option.bind (loopN (m25_l2 a0) FUEL (([] : List (List Int)), 0)) (fun (o3 : (List (List Int))) => some (o3, 0)))
set_option maxRecDepth 100000 in
set_option maxHeartbeats 8000000 in
theorem m25_ok (a0 : List Dcl) (r : (List (List Int)) × Int) (h0 : m25 a0 = some r) : Fun Try.prog 25 [.one (dS a0)] (resOf [.one (dS r.1), .one (dI r.2)]) := by
  unfold m25 at h0
  refine Fun.of_bodyM 9 61 Try.func25 rfl en_25 rfl (lb rfl) (fun S w => ?_)
  simp only [entry]
  refine XC.seq <| XC.region <| rA rfl rfl rfl <| rA rfl rfl rfl <| XL.nil <| XQ.seq <| XC.seq <| XC.seq <| XC.region <| rM rfl rfl rfl ?_
  refine bindK h0 (fun x1 hx1 h0 => ?_)
  refine XL.put rfl rfl (lb rfl) (OpOK.callFun (m46_ok a0 x1 hx1) rfl (.cons (.one (.d _)) .nil)) <| rA rfl rfl rfl <| XL.nil <| XQ.seq <| XC.seq <| XC.region <| rM rfl rfl rfl <| rR rfl rfl rfl (RO.binInt rfl rfl rfl) <| XL.nil <| XQ.seq ?_
  refine XC.cond (b := (x1 != 0)) rfl (fun c2 => ?_) (fun c2 => ?_)
  ·
   replace h0 := condT c2 h0
   refine XC.seq <| XC.region <| rM rfl rfl rfl <| rA rfl rfl rfl <| rA rfl rfl rfl <| XL.nil <| XQ.seq <| XC.ret ?_
   have e_ := Option.some.inj h0
   subst e_
   exact XQ.retF (fun _ _ h => h) rfl (RAs.tmp rfl (RAs.tmp rfl .nil)) (.cons (.one (.nil _)) (.cons (.one (.d _)) .nil))
  ·
   replace h0 := condF c2 h0
   refine XC.skip <| XQ.seq <| XC.seq <| XC.region <| rA rfl rfl rfl <| XL.nil <| XQ.seq <| XC.seq <| XC.seq <| XC.region <| rA rfl rfl rfl <| XL.nil <| XQ.seq <| XC.block ?_
   refine XC.joinX 0 (fun (o3 : (List (List Int))) => ⟨[(5, .v (.one (dA 0 o3)))], [], [(0, some ⟨54, 1, (Enc.encL o3).length, []⟩)], 1, 61, []⟩) (fun (o3 : (List (List Int))) => (some (o3, 0)) = some r) ?_ ?_
   ·
    refine XC.adoptT (t := 5) 54 1 rfl ?_
    refine bindK h0 (fun o4 hl1 h0 => ?_)
    refine XC.loopM (m25_l2 a0) (fun s1 => ⟨[(0, .v (.one (dS a0))), (5, .v (.one (dA 0 s1.1))), (6, .v (.one (dI s1.2)))], [], [(0, some ⟨54, 1, (Enc.encL s1.1).length, []⟩)], 1, 61, []⟩) (([] : List (List Int)), 0) o4 (stle (tR rfl (tR rfl (tR rfl tZ))) hZ (kR rfl kZ) rfl (Nat.zero_le _) rfl rfl rfl bZ rfl rfl) hl1 (fun s1 n1 oo1 h1 ho1 => ?_)
    unfold m25_l2 at h1
    refine XC.seq <| XC.seq <| XC.region <| rM rfl rfl rfl <| rM rfl rfl rfl <| rR rfl rfl rfl (RO.lenE (α := Dcl) sl_22 rfl (.d _)) <| rR rfl rfl rfl (RO.binInt rfl rfl rfl) <| XL.nil <| XQ.seq ?_
    refine XC.cond (b := (decide (s1.2 < (a0.length : Int)))) rfl (fun c5 => ?_) (fun c5 => ?_)
    ·
     replace h1 := condT c5 h1
     refine XC.skip <| XQ.seq <| XC.seq <| XC.block <| XC.seq <| XC.region <| rM rfl rfl rfl <| rM rfl rfl rfl ?_
     refine bindK h1 (fun x6 hx6 h1 => ?_)
     refine rR rfl rfl rfl (RO.indexE (α := Dcl) sl_22 rfl (.d _) rfl hx6) <| rR rfl rfl rfl (RO.loadPelAgg ag_48 rfl rfl rfl) ?_
     refine bindK h1 (fun x7 hx7 h1 => ?_)
     refine XL.put rfl rfl (lb rfl) (OpOK.callFun (m47_ok x6 x7 hx7) rfl (.cons (.agg (.cons (.d _) (.cons (.d _) (.cons (.d _) (.cons (.d _) (.cons (.d _) (.cons (.d _) (.cons (.d _) (.cons (.d _) (.cons (.d _) (.cons (.d _) (.cons (.d _) (.cons (.d _) (.cons (.d _) (.cons (.d _) (.cons (.d _) (.cons (.d _) (.cons (.d _) (.cons (.d _) (.cons (.d _) (.cons (.d _) (.cons (.d _) (.cons (.d _) (.cons (.d _) .nil)))))))))))))))))))))))) .nil)) <| rA rfl rfl rfl <| XL.nil <| XQ.seq <| XC.seq <| XC.region <| rA rfl rfl rfl <| rA rfl rfl rfl <| XL.nil <| XQ.seq <| XC.seq <| XC.seq <| XC.region <| rA rfl rfl rfl ?_
     refine XL.nil <| XQ.seq <| XC.block ?_
     refine XC.joinX 2 (fun (o8 : (List Int)) => ⟨[(0, .v (.one (dS a0))), (5, .v (.one (dA 0 s1.1))), (6, .v (.one (dI s1.2))), (8, .v (.one (dA 1 o8))), (9, .v (.one (dN)))], [], [(0, some ⟨54, 1, (Enc.encL s1.1).length, []⟩), (1, some ⟨3, 1, (Enc.encL o8).length, []⟩)], 2, 61, []⟩) (fun (o8 : (List Int)) => (Option.bind (loopN (m25_l1 a0 o8) FUEL (([] : List Int), 0)) (fun (o9 : (List Int)) => guardO (Nat.ble (s1.1.length + ([o9]).length) 1000000000)
       (some (.next ((s1.1 ++ ([o9])), (w64 (s1.2 + 1))))))) = some oo1) ?_ ?_
     ·
      refine XC.adoptT (t := 8) 3 1 rfl ?_
      refine bindK h1 (fun o9 hl2 h1 => ?_)
      refine XC.loopM (m25_l0 x7 a0) (fun s2 => ⟨[(0, .v (.one (dS a0))), (5, .v (.one (dA 0 s1.1))), (6, .v (.one (dI s1.2))), (7, .v (.one (dS x7))), (8, .v (.one (dA 1 s2.1))), (9, .v (.one (dN))), (10, .v (.one (dI s2.2)))], [], [(0, some ⟨54, 1, (Enc.encL s1.1).length, []⟩), (1, some ⟨3, 1, (Enc.encL s2.1).length, []⟩)], 2, 61, []⟩) (([] : List Int), 0) o9 (stle (tR rfl (tR rfl (tR rfl (tR rfl (tR rfl (tR rfl (tR rfl tZ))))))) hZ (kR rfl (kR rfl kZ)) rfl (Nat.zero_le _) rfl rfl rfl bZ rfl rfl) hl2 (fun s2 n2 oo2 h2 ho2 => ?_)
      unfold m25_l0 at h2
      refine XC.seq <| XC.seq <| XC.region <| rM rfl rfl rfl <| rM rfl rfl rfl <| rR rfl rfl rfl (RO.lenE (α := Bs) sl_23 rfl (.d _)) <| rR rfl rfl rfl (RO.binInt rfl rfl rfl) <| XL.nil <| XQ.seq ?_
      refine XC.cond (b := (decide (s2.2 < (x7.length : Int)))) rfl (fun c10 => ?_) (fun c10 => ?_)
      ·
       replace h2 := condT c10 h2
       refine XC.skip <| XQ.seq <| XC.seq <| XC.block <| XC.region <| rM rfl rfl rfl <| rM rfl rfl rfl <| rM rfl rfl rfl <| rM rfl rfl rfl ?_
       refine bindK h2 (fun x11 hx11 h2 => ?_)
       refine rR rfl rfl rfl (RO.indexE (α := Bs) sl_23 rfl (.d _) rfl hx11) <| rR rfl rfl rfl (RO.loadPel ag_9 rfl rfl) ?_
       refine bindK h2 (fun x12 hx12 h2 => ?_)
       refine XL.put rfl rfl (lb rfl) (OpOK.callFun (m48_ok a0 x11 x12 hx12) rfl (.cons (.one (.d _)) (.cons (.one (.d _)) .nil))) <| XL.put rfl rfl (lb rfl) (OpOK.lit1E (α := Int) (x12) sl_54 z_3 rfl rfl (lb rfl) (lb rfl) rfl rfl (.cons (.d _) .nil) rfl) ?_
       refine guardK h2 (fun g13 h2 => ?_)
       refine XL.put rfl rfl (lb rfl) (OpOK.appendE (α := Int) sl_54 el_3 rfl rfl rfl rfl rfl (.app _ _) g13) <| rA rfl rfl rfl <| XL.nil <| XQ.inBlock <| XQ.seq <| XC.region <| rM rfl rfl rfl <| rR rfl rfl rfl (RO.binInt rfl rfl rfl) <| rA rfl rfl rfl <| XL.nil ?_
       have e_ := Option.some.inj h2
       subst e_
       refine XQ.nextM ((s2.1 ++ ([x12])), (w64 (s2.2 + 1))) (stle (tR rfl (tR rfl (tR rfl (tR rfl (tR rfl (tR rfl (tR rfl tZ))))))) hZ (kR rfl (kR rfl kZ)) rfl (Nat.zero_le _) rfl rfl rfl bZ rfl rfl) ho2
      ·
       replace h2 := condF c10 h2
       refine XC.exit <| XQ.thenE <| XQ.thenE ?_
       have e_ := Option.some.inj h2
       subst e_
       have e_ : _ = _ := ho2
       subst e_
       exact XQ.joinX s2.1 (stle (tR rfl (tR rfl (tR rfl (tR rfl (tR rfl tZ))))) hZ (kR rfl (kR rfl kZ)) rfl (Nat.zero_le _) rfl rfl rfl bZ rfl rfl) h1
     ·
      intro o8 h1
      refine XQ.blockX <| XQ.seq <| XC.seq <| XC.seq <| XC.region <| rA rfl rfl rfl <| XL.nil <| XQ.seq <| XC.block ?_
      refine XC.joinX 4 (fun (o14 : (List Int)) => ⟨[(0, .v (.one (dS a0))), (5, .v (.one (dA 0 s1.1))), (6, .v (.one (dI s1.2))), (9, .v (.one (dA 2 o14)))], [], [(0, some ⟨54, 1, (Enc.encL s1.1).length, []⟩), (1, some ⟨3, 1, (Enc.encL o8).length, []⟩), (2, some ⟨3, 1, (Enc.encL o14).length, []⟩)], 3, 61, []⟩) (fun (o14 : (List Int)) => (guardO (Nat.ble (s1.1.length + ([o14]).length) 1000000000)
        (some (.next ((s1.1 ++ ([o14])), (w64 (s1.2 + 1)))))) = some oo1) ?_ ?_
      ·
       refine XC.adoptT (t := 9) 3 1 rfl ?_
       refine bindK h1 (fun o15 hl2 h1 => ?_)
       refine XC.loopM (m25_l1 a0 o8) (fun s2 => ⟨[(0, .v (.one (dS a0))), (5, .v (.one (dA 0 s1.1))), (6, .v (.one (dI s1.2))), (8, .v (.one (dA 1 o8))), (9, .v (.one (dA 2 s2.1))), (11, .v (.one (dI s2.2)))], [], [(0, some ⟨54, 1, (Enc.encL s1.1).length, []⟩), (1, some ⟨3, 1, (Enc.encL o8).length, []⟩), (2, some ⟨3, 1, (Enc.encL s2.1).length, []⟩)], 3, 61, []⟩) (([] : List Int), 0) o15 (stle (tR rfl (tR rfl (tR rfl (tR rfl (tR rfl (tR rfl tZ)))))) hZ (kR rfl (kR rfl (kR rfl kZ))) rfl (Nat.zero_le _) rfl rfl rfl bZ rfl rfl) hl2 (fun s2 n2 oo2 h2 ho2 => ?_)
       unfold m25_l1 at h2
       refine XC.seq <| XC.seq <| XC.region <| rM rfl rfl rfl <| rM rfl rfl rfl <| rR rfl rfl rfl (RO.lenE (α := Dcl) sl_22 rfl (.d _)) <| rR rfl rfl rfl (RO.binInt rfl rfl rfl) <| XL.nil <| XQ.seq ?_
       refine XC.cond (b := (decide (s2.2 < (a0.length : Int)))) rfl (fun c16 => ?_) (fun c16 => ?_)
       ·
        replace h2 := condT c16 h2
        refine XC.skip <| XQ.seq <| XC.seq <| XC.block <| XC.seq <| XC.region <| rM rfl rfl rfl <| rM rfl rfl rfl ?_
        refine bindK h2 (fun x17 hx17 h2 => ?_)
        refine XL.put rfl rfl (lb rfl) (OpOK.callFun (m49_ok o8 s2.2 x17 hx17) rfl (.cons (.one (.app _ _ _)) (.cons (.one (.d _)) .nil))) <| XL.nil <| XQ.seq ?_
        refine XC.cond (b := x17) rfl (fun c18 => ?_) (fun c18 => ?_)
        ·
         replace h2 := condT c18 h2
         refine XC.region <| rM rfl rfl rfl <| rM rfl rfl rfl <| XL.put rfl rfl (lb rfl) (OpOK.lit1E (α := Int) (s2.2) sl_54 z_3 rfl rfl (lb rfl) (lb rfl) rfl rfl (.cons (.d _) .nil) rfl) ?_
         refine guardK h2 (fun g19 h2 => ?_)
         refine XL.put rfl rfl (lb rfl) (OpOK.appendE (α := Int) sl_54 el_3 rfl rfl rfl rfl rfl (.app _ _) g19) <| rA rfl rfl rfl <| XL.nil <| XQ.inBlock <| XQ.seq <| XC.region <| rM rfl rfl rfl <| rR rfl rfl rfl (RO.binInt rfl rfl rfl) <| rA rfl rfl rfl <| XL.nil ?_
         have e_ := Option.some.inj h2
         subst e_
         refine XQ.nextM ((s2.1 ++ ([s2.2])), (w64 (s2.2 + 1))) (stle (tR rfl (tR rfl (tR rfl (tR rfl (tR rfl (tR rfl tZ)))))) hZ (kR rfl (kR rfl (kR rfl kZ))) rfl (Nat.zero_le _) rfl rfl rfl bZ rfl rfl) ho2
        ·
         replace h2 := condF c18 h2
         refine XC.skip <| XQ.inBlock <| XQ.seq <| XC.region <| rM rfl rfl rfl <| rR rfl rfl rfl (RO.binInt rfl rfl rfl) <| rA rfl rfl rfl <| XL.nil ?_
         have e_ := Option.some.inj h2
         subst e_
         refine XQ.nextM (s2.1, (w64 (s2.2 + 1))) (stle (tR rfl (tR rfl (tR rfl (tR rfl (tR rfl (tR rfl tZ)))))) hZ (kR rfl (kR rfl (kR rfl kZ))) rfl (Nat.zero_le _) rfl rfl rfl bZ rfl rfl) ho2
       ·
        replace h2 := condF c16 h2
        refine XC.exit <| XQ.thenE <| XQ.thenE ?_
        have e_ := Option.some.inj h2
        subst e_
        have e_ : _ = _ := ho2
        subst e_
        exact XQ.joinX s2.1 (stle (tR rfl (tR rfl (tR rfl (tR rfl tZ)))) hZ (kR rfl (kR rfl (kR rfl kZ))) rfl (Nat.zero_le _) rfl rfl rfl bZ rfl rfl) h1
      ·
       intro o14 h1
       refine XQ.blockX <| XQ.seq <| XC.region <| rM rfl rfl rfl <| rM rfl rfl rfl <| XL.put rfl rfl (lb rfl) (OpOK.lit1E (α := List Int) (o14) sl_57 z_54 rfl rfl (lb rfl) (lb rfl) rfl rfl (.cons (.app _ _ _) .nil) rfl) ?_
       refine guardK h1 (fun g20 h1 => ?_)
       refine XL.put rfl rfl (lb rfl) (OpOK.appendE (α := List Int) sl_57 el_54 rfl rfl rfl rfl rfl (.app _ _) g20) <| rA rfl rfl rfl <| XL.nil <| XQ.inBlock <| XQ.seq <| XC.region <| rM rfl rfl rfl <| rR rfl rfl rfl (RO.binInt rfl rfl rfl) <| rA rfl rfl rfl <| XL.nil ?_
       have e_ := Option.some.inj h1
       subst e_
       refine XQ.nextM ((s1.1 ++ ([o14])), (w64 (s1.2 + 1))) (stle (tR rfl (tR rfl (tR rfl tZ))) hZ (kR rfl kZ) rfl (Nat.zero_le _) rfl rfl rfl bZ rfl rfl) ho1
    ·
     replace h1 := condF c5 h1
     refine XC.exit <| XQ.thenE <| XQ.thenE ?_
     have e_ := Option.some.inj h1
     subst e_
     have e_ : _ = _ := ho1
     subst e_
     exact XQ.joinX s1.1 (stle (tR rfl tZ) hZ (kR rfl kZ) rfl (Nat.zero_le _) rfl rfl rfl bZ rfl rfl) h0
   ·
    intro o3 h0
    refine XQ.blockX <| XQ.seq <| XC.seq <| XC.region <| rM rfl rfl rfl <| rA rfl rfl rfl <| rA rfl rfl rfl <| XL.nil <| XQ.seq <| XC.ret ?_
    have e_ := Option.some.inj h0
    subst e_
    exact XQ.retF (fun _ _ h => h) rfl (RAs.tmp rfl (RAs.tmp rfl .nil)) (.cons (.one (.app _ _ _)) (.cons (.one (.d _)) .nil))
end Go.Proofs.Ytijcchddnnnmdaa
namespace Go.Proofs.Ytijcchddnnnmdaa
open Go.RowKit Go.Lib
set_option linter.unusedSimpArgs false
set_option linter.unusedVariables false
set_option linter.unusedSectionVars false
theorem pair_lt_eq : ∀ {l m : List Int}, l.Pairwise (· < ·) → m.Pairwise (· < ·) → (∀ x, x ∈ l ↔ x ∈ m) → l = m
  | [], [], _, _, _ => rfl
  | [], y :: m, _, _, h => absurd ((h y).2 List.mem_cons_self) (by simp)
  | x :: l, [], _, _, h => absurd ((h x).1 List.mem_cons_self) (by simp)
  | x :: l, y :: m, hl, hm, h => by
    have hx := List.pairwise_cons.1 hl
    have hy := List.pairwise_cons.1 hm
    have hxy : x = y := by
      have h1 : x ∈ y :: m := (h x).1 List.mem_cons_self
      have h2 : y ∈ x :: l := (h y).2 List.mem_cons_self
      rcases List.mem_cons.1 h1 with e | h1
      · exact e
      rcases List.mem_cons.1 h2 with e | h2
      · exact e.symm
      have := hx.1 y h2
      have := hy.1 x h1
      omega
    subst hxy
    congr 1
    refine pair_lt_eq hx.2 hy.2 fun z => ?_
    have hz := h z
    simp only [List.mem_cons] at hz
    constructor
    · intro h1
      rcases hz.1 (.inr h1) with e | h2
      · have := hx.1 z h1; omega
      · exact h2
    · intro h1
      rcases hz.2 (.inr h1) with e | h2
      · have := hy.1 z h1; omega
      · exact h2
theorem bang_eq (zs : List Int) {j : Nat} (h : j < zs.length) : zs.toArray[j]! = zs[j] := by
  rw [getElem!_pos zs.toArray j (by simpa using h)]; rfl
theorem compact_sorted {zs : List Int} (h : zs.Pairwise (· ≤ ·)) : (Lib.compact zs).Pairwise (· < ·) ∧ ∀ x, x ∈ Lib.compact zs ↔ x ∈ zs := by
  have hle : ∀ i j, (hi : i < zs.length) → (hj : j < zs.length) → i ≤ j → zs[i] ≤ zs[j] := fun i j hi hj hij => by
    rcases Nat.lt_or_ge i j with h1 | h1
    · exact List.pairwise_iff_getElem.1 h i j hi hj h1
    · obtain rfl : i = j := by omega
      exact Int.le_refl _
  unfold Lib.compact compactUpTo
  constructor
  · rw [List.pairwise_map]
    have hr : ((List.range zs.length).filter (keeps zs.toArray)).Pairwise (fun a b => a < b ∧ a < zs.length ∧ b < zs.length ∧ keeps zs.toArray b = true) := by
      have h1 : ((List.range zs.length).filter (keeps zs.toArray)).Pairwise (· < ·) := List.Pairwise.filter _ List.pairwise_lt_range
      refine List.Pairwise.imp_of_mem (fun ha hb hab => ⟨hab, ?_, ?_, ?_⟩) h1
      · exact List.mem_range.1 (List.mem_filter.1 ha).1
      · exact List.mem_range.1 (List.mem_filter.1 hb).1
      · exact (List.mem_filter.1 hb).2
    refine List.Pairwise.imp (fun {a b} hab => ?_) hr
    obtain ⟨h1, h2, h3, h4⟩ := hab
    have hb0 : b ≠ 0 := by omega
    have hne : zs.toArray[b]! ≠ zs.toArray[b - 1]! := fun e => by rw [keeps_neg (by omega) e] at h4; cases h4
    rw [bang_eq zs h3, bang_eq zs (by omega)] at hne
    rw [bang_eq zs h2, bang_eq zs h3]
    have h5 := hle a (b - 1) h2 (by omega) (by omega)
    have h6 := hle (b - 1) b (by omega) h3 (by omega)
    omega
  · intro x
    rw [List.mem_map]
    constructor
    · rintro ⟨j, hj, rfl⟩
      have := List.mem_range.1 (List.mem_filter.1 hj).1
      rw [bang_eq zs this]; exact List.getElem_mem this
    · intro hx
      obtain ⟨j, hj, hjx⟩ := List.mem_iff_getElem.1 hx
      have key : ∀ j, (hj : j < zs.length) → zs[j] = x → ∃ k, k ∈ (List.range zs.length).filter (keeps zs.toArray) ∧ zs.toArray[k]! = x := by
        intro j
        induction j with
        | zero =>
          intro hj hjx
          exact ⟨0, List.mem_filter.2 ⟨List.mem_range.2 hj, keeps_lt_one _ 0 (by omega)⟩, by rw [bang_eq zs hj, hjx]⟩
        | succ j ih =>
          intro hj hjx
          by_cases e : zs[j] = x
          · exact ih (by omega) e
          · refine ⟨j + 1, List.mem_filter.2 ⟨List.mem_range.2 hj, keeps_pos ?_⟩, by rw [bang_eq zs hj, hjx]⟩
            rw [bang_eq zs hj, Nat.add_sub_cancel, bang_eq zs (by omega), hjx]
            exact fun e' => e e'.symm
      exact key j hj hjx
theorem sortI_mem (l : List Int) (x : Int) : x ∈ sortI l ↔ x ∈ l := (sortI_perm l).mem_iff
theorem sortI_len (l : List Int) : (sortI l).length = l.length := (sortI_perm l).length_eq
def allNames (l : List Dcl) : List Bs := (l.map names).flatten
def ownO (i : Int) : List Dcl → Bs → Option Int
  | [], _ => none
  | d :: l, s => if s ∈ names d then some i else ownO (i + 1) l s
theorem ownO_app (s : Bs) (b : List Dcl) : ∀ (a : List Dcl) (i : Int), ownO i (a ++ b) s = (ownO i a s).or (ownO (i + a.length) b s)
  | [], i => by simp [ownO]
  | d :: a, i => by
    simp only [List.cons_append, ownO]
    split
    · rfl
    · rw [ownO_app s b a (i + 1), show i + 1 + (a.length : Int) = i + ((d :: a).length : Int) by simp only [List.length_cons]; omega]
theorem ownO_some (s : Bs) : ∀ (l : List Dcl) (i j : Int), ownO i l s = some j → ∃ k : Nat, ∃ d, j = i + k ∧ l[k]? = some d ∧ s ∈ names d
  | [], i, j, h => by cases h
  | d :: l, i, j, h => by
    simp only [ownO] at h
    split at h
    · cases h; exact ⟨0, d, by simp, rfl, ‹_›⟩
    · obtain ⟨k, d', h1, h2, h3⟩ := ownO_some s l (i + 1) j h
      exact ⟨k + 1, d', by omega, h2, h3⟩
theorem ownO_none (s : Bs) : ∀ (l : List Dcl) (i : Int), ownO i l s = none ↔ s ∉ allNames l
  | [], i => by simp [ownO, allNames]
  | d :: l, i => by
    simp only [ownO]
    have ih := ownO_none s l (i + 1)
    unfold allNames at ih ⊢
    simp only [List.map_cons, List.flatten_cons, List.mem_append, not_or]
    split
    · simp [*]
    · rw [ih]; simp [*]
def ownV (env : List Dcl) (s : Bs) : Int := (ownO 0 env s).getD 0
def envSz (env : List Dcl) : Nat := (env.map Dcl.size).sum
theorem size_le {env : List Dcl} {d : Dcl} (h : d ∈ env) : d.size ≤ envSz env := sum_mem Dcl.size h
theorem env_len (env : List Dcl) : env.length ≤ envSz env := len_sum Dcl.size (fun d => by unfold Dcl.size; omega) env
theorem all_len (env : List Dcl) : (allNames env).length ≤ envSz env + env.length := by
  have := flat_le names (fun d => d.size + 1) names_len env
  have h2 : ∀ l : List Dcl, (l.map (fun d => d.size + 1)).sum = (l.map Dcl.size).sum + l.length := by
    intro l
    induction l with
    | nil => rfl
    | cons x l ih => simp only [List.map_cons, List.sum_cons, List.length_cons, ih]; omega
  rw [h2] at this
  exact this
theorem size_app (a b : List Dcl) : envSz (a ++ b) = envSz a + envSz b := by unfold envSz; simp
theorem size_cons (x : Dcl) (b : List Dcl) : envSz (x :: b) = x.size + envSz b := by unfold envSz; simp
theorem all_snoc (a : List Dcl) (x : Dcl) : allNames (a ++ [x]) = allNames a ++ names x := by unfold allNames; simp
theorem all_nodup {a b : List Dcl} (h : (allNames (a ++ b)).Nodup) : (allNames a).Nodup := by
  unfold allNames at h ⊢
  rw [List.map_append, List.flatten_append] at h
  exact (List.nodup_append.1 h).1
def closedA (env : List Dcl) (l : List Dcl) : Prop := ∀ d ∈ l, ∀ s ∈ uses d, s ∈ allNames env
def row (env : List Dcl) (d : Dcl) : List Int := ((List.range env.length).map fun (k : Nat) => (k : Int)).filter fun j => decide (j ∈ (uses d).map (ownV env))
def graphL (env : List Dcl) : List (List Int) := env.map (row env)
inductive Says (env : List Dcl) : List (List Int) × Int → Prop
  | twice (h : ¬ (allNames env).Nodup) : Says env ([], 8)
  | none (h : (allNames env).Nodup) (h2 : ¬ closedA env env) : Says env ([], 9)
  | ok (h : (allNames env).Nodup) (h2 : closedA env env) : Says env (graphL env, 0)
theorem Says.uniq {env : List Dcl} {r s : List (List Int) × Int} (h1 : Says env r) (h2 : Says env s) : r = s := by
  cases h1 <;> cases h2 <;> first | rfl | contradiction
theorem ownV_range {env : List Dcl} {s : Bs} (h : s ∈ allNames env) : ∃ k : Nat, k < env.length ∧ ownO 0 env s = some (k : Int) := by
  cases h1 : ownO 0 env s with
  | none => exact absurd h ((ownO_none s env 0).1 h1)
  | some j =>
    obtain ⟨k, d, h2, h3, h4⟩ := ownO_some s env 0 j h1
    exact ⟨k, (List.getElem?_eq_some_iff.1 h3).1, by rw [h2, Int.zero_add]⟩
theorem row_pair (env : List Dcl) (d : Dcl) : (row env d).Pairwise (· < ·) := by
  refine List.Pairwise.filter _ ?_
  rw [List.pairwise_map]
  exact List.pairwise_lt_range.imp fun h => by omega
theorem row_mem {env : List Dcl} {d : Dcl} (h : ∀ s ∈ uses d, s ∈ allNames env) (x : Int) : x ∈ row env d ↔ x ∈ (uses d).map (ownV env) := by
  unfold row
  rw [List.mem_filter, decide_eq_true_eq]
  refine ⟨fun h => h.2, fun hx => ⟨?_, hx⟩⟩
  obtain ⟨s, hs, rfl⟩ := List.mem_map.1 hx
  obtain ⟨k, hk, e⟩ := ownV_range (h s hs)
  unfold ownV
  rw [e]
  exact List.mem_map.2 ⟨k, List.mem_range.2 hk, rfl⟩
theorem row_sort {env : List Dcl} {d : Dcl} (h : ∀ s ∈ uses d, s ∈ allNames env) : Lib.compact (sortI ((uses d).map (ownV env))) = row env d := by
  obtain ⟨h1, h2⟩ := compact_sorted (sortI_pair ((uses d).map (ownV env)))
  refine pair_lt_eq h1 (row_pair env d) fun x => ?_
  rw [h2, sortI_mem, row_mem h]
abbrev OM := GMap Bs Int
theorem m23_l0_eq (i : Int) (M0 : OM) (f : Bs → Option Int) (nx : List Bs) (hM : ∀ s, gmGet M0 s = f s) (hl : nx.length ≤ 900000000) : ∃ r, loopN (m23_l0 nx (i, M0)) FUEL (0, M0) = some r ∧
    ((nx.Nodup ∧ (∀ s ∈ nx, f s = none) ∧ ∃ M', r = .inl M' ∧ ∀ s, gmGet M' s = (f s).or (if s ∈ nx then some i else none)) ∨ (¬ (nx.Nodup ∧ ∀ s ∈ nx, f s = none) ∧ r = .inr (.inr (.inl ())))) := by
  refine loop_all (step := m23_l0 nx (i, M0)) nx (fun k (s : OM) => (k, s)) (fun c M => c.Nodup ∧ (∀ s ∈ c, f s = none) ∧ ∀ s, gmGet M s = (f s).or (if s ∈ c then some i else none)) _ hl ?_ ?_ M0 ⟨List.nodup_nil, by simp, fun s => by rw [hM s]; simp⟩
  · intro a x b M e hI
    obtain ⟨h1, h2, h3⟩ := hI
    cases hx : gmHas M x with
    | true =>
      refine .inl ⟨.inr (.inr (.inl ())), ?_, .inr ⟨?_, rfl⟩⟩
      · unfold m23_l0
        dsimp only
        rw [e, lt_mid, idx_mid]
        simp only [cond_true, Option.bind_some]
        rw [hx]; rfl
      · rintro ⟨h4, h5⟩
        have h6 := h5 x (by rw [e]; simp)
        unfold gmHas at hx
        rw [h3, h6] at hx
        by_cases hxa : x ∈ a
        · rw [e, List.nodup_append] at h4
          exact h4.2.2 x hxa x List.mem_cons_self rfl
        · simp [hxa] at hx
    | false =>
      refine .inr ⟨gmSet M x i, ?_, ?_, ?_, ?_⟩
      · unfold m23_l0
        dsimp only
        rw [e, lt_mid, idx_mid]
        simp only [cond_true, Option.bind_some]
        rw [hx]; rfl
      · unfold gmHas at hx
        rw [h3] at hx
        rw [List.nodup_append]
        refine ⟨h1, by simp, fun y hy z hz => ?_⟩
        rw [List.mem_singleton] at hz
        subst hz
        intro e2
        subst e2
        cases hf : f y with
        | some j => rw [hf] at hx; cases hx
        | none => rw [hf] at hx; simp [hy] at hx
      · intro s hs
        rcases List.mem_append.1 hs with hs | hs
        · exact h2 s hs
        · rw [List.mem_singleton] at hs
          subst hs
          unfold gmHas at hx
          rw [h3] at hx
          cases hf : f s with
          | some j => rw [hf] at hx; cases hx
          | none => rfl
      · intro s
        rw [gmGet_set, h3]
        by_cases es : s = x
        · subst es
          unfold gmHas at hx
          rw [h3] at hx
          cases hf : f s with
          | some j => rw [hf] at hx; cases hx
          | none => simp
        · rw [if_neg es]
          have : s ∈ a ++ [x] ↔ s ∈ a := by simp [es]
          simp only [this]
  · intro M hI
    refine ⟨.inl M, ?_, .inl ⟨hI.1, hI.2.1, M, rfl, hI.2.2⟩⟩
    unfold m23_l0
    dsimp only
    rw [lt_end]; rfl
theorem nodup_snoc {a : List Dcl} {x : Dcl} (h : (allNames a).Nodup) : (allNames (a ++ [x])).Nodup ↔ ((names x).Nodup ∧ ∀ s ∈ names x, ownO 0 a s = none) := by
  rw [all_snoc, List.nodup_append]
  constructor
  · rintro ⟨-, h1, h2⟩
    exact ⟨h1, fun s hs => (ownO_none s a 0).2 fun h3 => h2 s h3 s hs rfl⟩
  · rintro ⟨h1, h2⟩
    exact ⟨h, h1, fun s hs t ht e => by subst e; exact (ownO_none s a 0).1 (h2 s ht) hs⟩
theorem m23_l1_eq (env : List Dcl) (hl : envSz env ≤ 100000000) : ∃ r, loopN (m23_l1 env) FUEL (0, gmNil) = some r ∧
    (((allNames env).Nodup ∧ ∃ M, r = .inl M ∧ ∀ s, gmGet M s = ownO 0 env s) ∨ (¬ (allNames env).Nodup ∧ r = .inr (.inr (.inl ())))) := by
  have hel := env_len env
  refine loop_all (step := m23_l1 env) env (fun k (s : OM) => (k, s)) (fun a M => (allNames a).Nodup ∧ ∀ s, gmGet M s = ownO 0 a s) _ (by omega) ?_ ?_ gmNil ⟨List.nodup_nil, fun s => rfl⟩
  · intro a x b M e hI
    have hx : x ∈ env := by rw [e]; simp
    have hxs := size_le hx
    have hnl := names_len x
    obtain ⟨h1, h2⟩ := hI
    obtain ⟨r, e1, hr⟩ := m23_l0_eq (a.length : Int) M (ownO 0 a) (names x) h2 (by omega)
    rcases hr with ⟨h3, h4, M', rfl, h5⟩ | ⟨h3, rfl⟩
    · refine .inr ⟨M', ?_, ?_, fun s => ?_⟩
      · unfold m23_l1
        dsimp only
        rw [e, lt_mid, idx_mid]
        simp only [cond_true, Option.bind_some]
        rw [m37_eq x (by omega), Option.bind_some, e1]; rfl
      · exact (nodup_snoc h1).2 ⟨h3, h4⟩
      · rw [h5, ownO_app, Int.zero_add]; rfl
    · refine .inl ⟨.inr (.inr (.inl ())), ?_, .inr ⟨?_, rfl⟩⟩
      · unfold m23_l1
        dsimp only
        rw [e, lt_mid, idx_mid]
        simp only [cond_true, Option.bind_some]
        rw [m37_eq x (by omega), Option.bind_some, e1]; rfl
      · intro h6
        rw [e, show a ++ x :: b = (a ++ [x]) ++ b by simp] at h6
        exact h3 ((nodup_snoc h1).1 (all_nodup h6))
  · intro M hI
    refine ⟨.inl M, ?_, .inl ⟨hI.1, M, rfl, hI.2⟩⟩
    unfold m23_l1
    dsimp only
    rw [lt_end]; rfl
theorem m23_l2_eq (env : List Dcl) (M : OM) (hM : ∀ s, gmGet M s = ownO 0 env s) (u : List Bs) (hl : u.length ≤ 900000000) : ∃ r, loopN (m23_l2 u M) FUEL ([], 0) = some r ∧
    (((∀ s ∈ u, s ∈ allNames env) ∧ r = .inl (u.map (ownV env))) ∨ (¬ (∀ s ∈ u, s ∈ allNames env) ∧ r = .inr (.inr (.inr ())))) := by
  have hv : ∀ s, gmVal M s = ownV env s := fun s => by unfold gmVal ownV; rw [hM]; rfl
  have hh : ∀ s, gmHas M s = decide (s ∈ allNames env) := fun s => by
    unfold gmHas
    rw [hM]
    by_cases h : s ∈ allNames env
    · obtain ⟨k, -, e⟩ := ownV_range h
      rw [e]; simp [h]
    · rw [(ownO_none s env 0).2 h]; simp [h]
  refine loop_all (step := m23_l2 u M) u (fun k (s : List Int) => (s, k)) (fun a s => (∀ x ∈ a, x ∈ allNames env) ∧ s = a.map (ownV env)) _ hl ?_ ?_ [] ⟨by simp, rfl⟩
  · intro a x b s e hI
    obtain ⟨h1, h2⟩ := hI
    have hal : a.length < u.length := mid_lt e
    by_cases hx : x ∈ allNames env
    · refine .inr ⟨s ++ [ownV env x], ?_, fun y hy => ?_, by rw [h2]; simp⟩
      · unfold m23_l2
        dsimp only
        rw [e, lt_mid, idx_mid]
        simp only [cond_true, Option.bind_some]
        rw [hh, hv, guard_le (by rw [h2]; simp; omega)]
        simp [hx]
      · rcases List.mem_append.1 hy with hy | hy
        · exact h1 y hy
        · rw [List.mem_singleton] at hy; subst hy; exact hx
    · refine .inl ⟨.inr (.inr (.inr ())), ?_, .inr ⟨fun h => hx (h x (by rw [e]; simp)), rfl⟩⟩
      unfold m23_l2
      dsimp only
      rw [e, lt_mid, idx_mid]
      simp only [cond_true, Option.bind_some]
      rw [hh]
      simp [hx]
  · intro s hI
    refine ⟨.inl s, ?_, .inl ⟨hI.1, by rw [hI.2]⟩⟩
    unfold m23_l2
    dsimp only
    rw [lt_end]; rfl
theorem m23_l3_eq (env : List Dcl) (M : OM) (hM : ∀ s, gmGet M s = ownO 0 env s) (hl : envSz env ≤ 100000000) : ∃ r, loopN (m23_l3 env M) FUEL (0, []) = some r ∧
    ((closedA env env ∧ r = .inl (graphL env)) ∨ (¬ closedA env env ∧ r = .inr (.inr (.inr ())))) := by
  have hel := env_len env
  refine loop_all (step := m23_l3 env M) env (fun k (s : List (List Int)) => (k, s)) (fun a s => closedA env a ∧ s = a.map (row env)) _ (by omega) ?_ ?_ [] ⟨by simp [closedA], rfl⟩
  · intro a x b s e hI
    obtain ⟨h1, h2⟩ := hI
    have hx : x ∈ env := by rw [e]; simp
    have hxs := size_le hx
    have hul := uses_len x
    have hal : a.length < env.length := mid_lt e
    obtain ⟨r, e1, hr⟩ := m23_l2_eq env M hM (uses x) (by omega)
    rcases hr with ⟨h3, rfl⟩ | ⟨h3, rfl⟩
    · refine .inr ⟨s ++ [row env x], ?_, fun d hd => ?_, by rw [h2]; simp⟩
      · unfold m23_l3
        dsimp only
        rw [e, lt_mid, idx_mid]
        simp only [cond_true, Option.bind_some]
        rw [m53_eq x (by omega), Option.bind_some, e1, Option.bind_some]
        dsimp only [Sum.elim]
        unfold sortF compactF
        rw [← e, Nat.ble_eq_true_of_le (show ((uses x).map (ownV env)).length ≤ 1000000000 by simp; omega), cond_true, Option.bind_some]
        rw [show Nat.beq (Enc.encL (sortI ((uses x).map (ownV env)))).length (Enc.encL ((uses x).map (ownV env))).length = true from by rw [Enc.len, Enc.len, sortI_len, Nat.beq_refl]]
        rw [cond_true, Option.bind_some, row_sort h3, guard_le (by rw [h2]; simp; omega)]
      · rcases List.mem_append.1 hd with hd | hd
        · exact h1 d hd
        · rw [List.mem_singleton] at hd; subst hd; exact h3
    · refine .inl ⟨.inr (.inr (.inr ())), ?_, .inr ⟨fun h => h3 (h x hx), rfl⟩⟩
      unfold m23_l3
      dsimp only
      rw [e, lt_mid, idx_mid]
      simp only [cond_true, Option.bind_some]
      rw [m53_eq x (by omega), Option.bind_some, e1]; rfl
  · intro s hI
    refine ⟨.inl s, ?_, .inl ⟨hI.1, by rw [hI.2]; rfl⟩⟩
    unfold m23_l3
    dsimp only
    rw [lt_end]; rfl
theorem newGraph_eq {γ : Type} (env : List Dcl) (hl : envSz env ≤ 100000000) : ∃ r, (Option.bind (loopN (m23_l1 env) FUEL (0, gmNil)) (Sum.elim (fun (o6 : OM) => Option.bind (loopN (m23_l3 env o6) FUEL (0, ([] : List (List Int)))) (Sum.elim (fun (o7 : List (List Int)) => some (.inl (o7, o6))) (fun o => some o))) (fun o => some o))) = some r ∧
    ((¬ (allNames env).Nodup ∧ r = .inr (.inl ())) ∨ ((allNames env).Nodup ∧ ¬ closedA env env ∧ r = .inr (.inr ())) ∨ ((allNames env).Nodup ∧ closedA env env ∧ ∃ M, r = .inl (graphL env, M) ∧ ∀ s, gmGet M s = ownO 0 env s)) := by
  obtain ⟨r, e1, hr⟩ := m23_l1_eq env hl
  rw [e1, Option.bind_some]
  rcases hr with ⟨h1, M, rfl, hM⟩ | ⟨h1, rfl⟩
  · obtain ⟨r, e2, hr⟩ := m23_l3_eq env M hM hl
    dsimp only [Sum.elim]
    rw [e2, Option.bind_some]
    rcases hr with ⟨h2, rfl⟩ | ⟨h2, rfl⟩
    · exact ⟨_, rfl, .inr (.inr ⟨h1, h2, M, rfl, hM⟩)⟩
    · exact ⟨_, rfl, .inr (.inl ⟨h1, h2, rfl⟩)⟩
  · exact ⟨_, rfl, .inl ⟨h1, rfl⟩⟩
theorem m23_eq (env : List Dcl) (hl : envSz env ≤ 100000000) : ∃ r, m23 env = some r ∧ Says env r := by
  unfold m23
  obtain ⟨r, e, hr⟩ := newGraph_eq (γ := Unit) env hl
  rw [e, Option.bind_some]
  rcases hr with ⟨h1, rfl⟩ | ⟨h1, h2, rfl⟩ | ⟨h1, h2, M, rfl, hM⟩
  · exact ⟨_, rfl, .twice h1⟩
  · exact ⟨_, rfl, .none h1 h2⟩
  · exact ⟨_, rfl, .ok h1 h2⟩
theorem m48_eq (env : List Dcl) (s : Bs) (hl : envSz env ≤ 100000000) : m48 env s = some ((ownO 0 env s).getD (-1)) := by
  have hel := env_len env
  unfold m48
  obtain ⟨r, e, hr⟩ := loop_all (step := m48_l0 env s) env (fun k (_ : Unit) => k) (fun a _ => ownO 0 a s = none) (fun r => r = match ownO 0 env s with
      | some j => .inr j
      | none => .inl ()) (by omega)
    (fun a x b _ e hI => by
      have hx : x ∈ env := by rw [e]; simp
      have hxs := size_le hx
      have hnl := names_len x
      by_cases hm : s ∈ names x
      · refine .inl ⟨.inr (a.length : Int), ?_, ?_⟩
        · unfold m48_l0
          rw [e, lt_mid, idx_mid]
          simp only [cond_true, Option.bind_some]
          rw [m18_eq x (by omega), Option.bind_some, m61_eq _ _ (by omega)]
          simp [hm]
        · rw [e, ownO_app, hI]
          simp [ownO, hm]
      · refine .inr ⟨(), ?_, ?_⟩
        · unfold m48_l0
          rw [e, lt_mid, idx_mid]
          simp only [cond_true, Option.bind_some]
          rw [m18_eq x (by omega), Option.bind_some, m61_eq _ _ (by omega)]
          simp [hm]
        · rw [ownO_app, hI]
          simp [ownO, hm])
    (fun _ hI => ⟨.inl (), by unfold m48_l0; rw [lt_end]; rfl, by rw [hI]⟩) () rfl
  rw [e, Option.bind_some, hr]
  cases ownO 0 env s <;> rfl
theorem m49_eq (l : List Int) (s : Int) (h : l.length ≤ 900000000) : m49 l s = some (decide (s ∈ l)) := by
  unfold m49
  obtain ⟨r, e, h2⟩ := loop_all (step := m49_l0 l s) l (fun i (_ : Unit) => i) (fun a _ => s ∉ a) (fun r => (r = .inl () ∧ s ∉ l) ∨ (r = .inr true ∧ s ∈ l)) h
    (fun a x b _ hl hs => by
      unfold m49_l0
      rw [hl, lt_mid, idx_mid]
      simp only [cond_true, Option.bind_some, beqI]
      by_cases e : x = s
      · subst e
        exact .inl ⟨.inr true, by simp, .inr ⟨rfl, by simp⟩⟩
      · refine .inr ⟨(), by simp [e], ?_⟩
        intro h'
        rcases List.mem_append.1 h' with h' | h'
        · exact hs h'
        · exact e (List.mem_singleton.1 h').symm)
    (fun _ hs => ⟨.inl (), by unfold m49_l0; rw [lt_end]; rfl, .inl ⟨rfl, hs⟩⟩) () (by simp)
  rw [e]
  rcases h2 with ⟨rfl, h2⟩ | ⟨rfl, h2⟩
  · simp [h2]
  · simp [h2]
theorem m46_l0_eq (all nx : List Bs) (ha : all.Nodup) (hl : all.length + nx.length ≤ 900000000) : ∃ r, loopN (m46_l0 nx) FUEL (all, 0) = some r ∧ (((all ++ nx).Nodup ∧ r = .inl (all ++ nx)) ∨ (¬ (all ++ nx).Nodup ∧ r = .inr 8)) := by
  refine loop_all (step := m46_l0 nx) nx (fun k (s : List Bs) => (s, k)) (fun a s => (all ++ a).Nodup ∧ s = all ++ a) _ (by omega) ?_ ?_ all ⟨by simpa using ha, by simp⟩
  · intro a x b s e hI
    obtain ⟨h1, h2⟩ := hI
    have hal : a.length < nx.length := mid_lt e
    by_cases hx : x ∈ all ++ a
    · refine .inl ⟨.inr 8, ?_, .inr ⟨fun h3 => ?_, rfl⟩⟩
      · unfold m46_l0
        dsimp only
        rw [e, lt_mid, idx_mid]
        simp only [cond_true, Option.bind_some]
        rw [h2, m61_eq _ _ (by simp; omega), decide_eq_true hx]; rfl
      · rw [e, ← List.append_assoc, List.nodup_append] at h3
        exact h3.2.2 x hx x List.mem_cons_self rfl
    · refine .inr ⟨s ++ [x], ?_, ?_, by rw [h2, List.append_assoc]⟩
      · unfold m46_l0
        dsimp only
        rw [e, lt_mid, idx_mid]
        simp only [cond_true, Option.bind_some]
        rw [h2, m61_eq _ _ (by simp; omega), decide_eq_false hx]
        simp only [Option.bind_some, cond_false]
        rw [guard_le (by simp; omega)]
      · rw [← List.append_assoc, List.nodup_append]
        refine ⟨h1, by simp, fun y hy z hz e2 => ?_⟩
        rw [List.mem_singleton] at hz
        subst hz e2
        exact hx hy
  · intro s hI
    refine ⟨.inl s, ?_, .inl ⟨hI.1, by rw [hI.2]⟩⟩
    unfold m46_l0
    dsimp only
    rw [lt_end]; rfl
theorem m46_l2_eq (all u : List Bs) (hl : all.length ≤ 900000000) (hu : u.length ≤ 900000000) : ∃ r, loopN (m46_l2 u all) FUEL 0 = some r ∧ (((∀ s ∈ u, s ∈ all) ∧ r = .inl ()) ∨ (¬ (∀ s ∈ u, s ∈ all) ∧ r = .inr 9)) := by
  refine loop_all (step := m46_l2 u all) u (fun k (_ : Unit) => k) (fun a _ => ∀ s ∈ a, s ∈ all) _ hu ?_ ?_ () (by simp)
  · intro a x b _ e hI
    by_cases hx : x ∈ all
    · refine .inr ⟨(), ?_, fun y hy => ?_⟩
      · unfold m46_l2
        rw [e, lt_mid, idx_mid]
        simp only [cond_true, Option.bind_some]
        rw [m61_eq _ _ hl, decide_eq_true hx]; rfl
      · rcases List.mem_append.1 hy with hy | hy
        · exact hI y hy
        · rw [List.mem_singleton] at hy; subst hy; exact hx
    · refine .inl ⟨.inr 9, ?_, .inr ⟨fun h => hx (h x (by rw [e]; simp)), rfl⟩⟩
      unfold m46_l2
      rw [e, lt_mid, idx_mid]
      simp only [cond_true, Option.bind_some]
      rw [m61_eq _ _ hl, decide_eq_false hx]; rfl
  · intro _ hI
    refine ⟨.inl (), ?_, .inl ⟨hI, rfl⟩⟩
    unfold m46_l2
    rw [lt_end]; rfl
theorem m46_eq (env : List Dcl) (hl : envSz env ≤ 100000000) : ∃ r, m46 env = some r ∧ ((¬ (allNames env).Nodup ∧ r = 8) ∨ ((allNames env).Nodup ∧ ¬ closedA env env ∧ r = 9) ∨ ((allNames env).Nodup ∧ closedA env env ∧ r = 0)) := by
  have hel := env_len env
  have hal := all_len env
  unfold m46
  obtain ⟨r, e, hr⟩ := loop_all (step := m46_l1 env) env (fun k (s : List Bs) => (s, k)) (fun a s => (allNames a).Nodup ∧ s = allNames a) (fun r => ((allNames env).Nodup ∧ r = .inl (allNames env)) ∨ (¬ (allNames env).Nodup ∧ r = .inr 8)) (by omega)
    (fun a x b s e hI => by
      obtain ⟨h1, h2⟩ := hI
      have hx : x ∈ env := by rw [e]; simp
      have hxs := size_le hx
      have hnl := names_len x
      have haa := all_len a
      have hsz : envSz env = envSz a + (x.size + envSz b) := by rw [e, size_app, size_cons]
      have hll : env.length = a.length + (b.length + 1) := by rw [e]; simp
      obtain ⟨r, e1, hr⟩ := m46_l0_eq (allNames a) (names x) h1 (by omega)
      rcases hr with ⟨h3, rfl⟩ | ⟨h3, rfl⟩
      · refine .inr ⟨allNames a ++ names x, ?_, ?_, ?_⟩
        · unfold m46_l1
          dsimp only
          rw [e, lt_mid, idx_mid]
          simp only [cond_true, Option.bind_some]
          rw [m18_eq x (by omega), Option.bind_some, h2, e1]; rfl
        · rw [all_snoc]; exact h3
        · rw [all_snoc]
      · refine .inl ⟨.inr 8, ?_, .inr ⟨fun h4 => ?_, rfl⟩⟩
        · unfold m46_l1
          dsimp only
          rw [e, lt_mid, idx_mid]
          simp only [cond_true, Option.bind_some]
          rw [m18_eq x (by omega), Option.bind_some, h2, e1]; rfl
        · rw [e, show a ++ x :: b = (a ++ [x]) ++ b by simp] at h4
          have := all_nodup h4
          rw [all_snoc] at this
          exact h3 this)
    (fun s hI => ⟨.inl s, by unfold m46_l1; dsimp only; rw [lt_end]; rfl, .inl ⟨hI.1, by rw [hI.2]⟩⟩) [] ⟨List.nodup_nil, rfl⟩
  rw [e, Option.bind_some]
  rcases hr with ⟨h1, rfl⟩ | ⟨h1, rfl⟩
  · dsimp only [Sum.elim]
    obtain ⟨r, e, hr⟩ := loop_all (step := m46_l3 env (allNames env)) env (fun k (_ : Unit) => k) (fun a _ => closedA env a) (fun r => (closedA env env ∧ r = .inl ()) ∨ (¬ closedA env env ∧ r = .inr 9)) (by omega)
      (fun a x b _ e hI => by
        have hx : x ∈ env := by rw [e]; simp
        have hxs := size_le hx
        have hul := uses_len x
        obtain ⟨r, e1, hr⟩ := m46_l2_eq (allNames env) (uses x) (by omega) (by omega)
        rcases hr with ⟨h3, rfl⟩ | ⟨h3, rfl⟩
        · refine .inr ⟨(), ?_, fun d hd => ?_⟩
          · unfold m46_l3
            rw [e, lt_mid, idx_mid]
            simp only [cond_true, Option.bind_some]
            rw [m47_eq x (by omega), Option.bind_some, ← e, e1]; rfl
          · rcases List.mem_append.1 hd with hd | hd
            · exact hI d hd
            · rw [List.mem_singleton] at hd; subst hd; exact h3
        · refine .inl ⟨.inr 9, ?_, .inr ⟨fun h => h3 (h x hx), rfl⟩⟩
          unfold m46_l3
          rw [e, lt_mid, idx_mid]
          simp only [cond_true, Option.bind_some]
          rw [m47_eq x (by omega), Option.bind_some, ← e, e1]; rfl)
      (fun _ hI => ⟨.inl (), by unfold m46_l3; rw [lt_end]; rfl, .inl ⟨hI, rfl⟩⟩) () (by simp [closedA])
    rw [e, Option.bind_some]
    rcases hr with ⟨h2, rfl⟩ | ⟨h2, rfl⟩
    · exact ⟨0, rfl, .inr (.inr ⟨h1, h2, rfl⟩)⟩
    · exact ⟨9, rfl, .inr (.inl ⟨h1, h2, rfl⟩)⟩
  · exact ⟨8, rfl, .inl ⟨h1, rfl⟩⟩
theorem m25_l0_eq (env : List Dcl) (hl : envSz env ≤ 100000000) (u : List Bs) (hu : u.length ≤ 900000000) (h : ∀ s ∈ u, s ∈ allNames env) : loopN (m25_l0 u env) FUEL ([], 0) = some (u.map (ownV env)) := by
  obtain ⟨r, e, rfl⟩ := loop_all (step := m25_l0 u env) u (fun k (s : List Int) => (s, k)) (fun a s => s = a.map (ownV env)) (fun r => r = u.map (ownV env)) hu
    (fun a x b s e hI => .inr ⟨s ++ [ownV env x], by
      have hal : a.length < u.length := mid_lt e
      unfold m25_l0
      dsimp only
      obtain ⟨k, hk, e2⟩ := ownV_range (h x (by rw [e]; simp))
      rw [e, lt_mid, idx_mid]
      simp only [cond_true, Option.bind_some]
      rw [m48_eq env x hl, Option.bind_some, guard_le (by rw [hI]; simp; omega)]
      unfold ownV
      rw [e2]; rfl, by rw [hI]; simp⟩)
    (fun s hI => ⟨s, by unfold m25_l0; dsimp only; rw [lt_end]; rfl, hI⟩) [] rfl
  exact e
theorem m25_l1_eq (env : List Dcl) (hl : envSz env ≤ 100000000) (o : List Int) (ho : o.length ≤ 900000000) : loopN (m25_l1 env o) FUEL ([], 0) = some (((List.range env.length).map fun (k : Nat) => (k : Int)).filter fun j => decide (j ∈ o)) := by
  have hel := env_len env
  obtain ⟨r, e, rfl⟩ := loop_all (step := m25_l1 env o) env (fun k (s : List Int) => (s, k)) (fun a s => s = ((List.range a.length).map fun (k : Nat) => (k : Int)).filter fun j => decide (j ∈ o)) (fun r => r = ((List.range env.length).map fun (k : Nat) => (k : Int)).filter fun j => decide (j ∈ o)) (by omega)
    (fun a x b s e hI => .inr ⟨s ++ (if (a.length : Int) ∈ o then [(a.length : Int)] else []), by
      have hal : a.length < env.length := mid_lt e
      have hsl : s.length ≤ a.length := by
        rw [hI]
        refine Nat.le_trans (List.length_filter_le _ _) ?_
        simp
      unfold m25_l1
      dsimp only
      rw [e, lt_mid]
      simp only [cond_true]
      rw [m49_eq o _ ho, Option.bind_some]
      by_cases hm : (a.length : Int) ∈ o
      · rw [decide_eq_true hm, if_pos hm, cond_true, guard_le (by simp; omega)]
      · rw [decide_eq_false hm, if_neg hm, cond_false, List.append_nil], by
      rw [hI]
      simp only [List.length_append, List.length_cons, List.length_nil]
      rw [show a.length + (0 + 1) = a.length + 1 from rfl, List.range_succ, List.map_append, List.filter_append]
      congr 1
      simp only [List.map_cons, List.map_nil, List.filter_cons, List.filter_nil, decide_eq_true_eq]⟩)
    (fun s hI => ⟨s, by unfold m25_l1; dsimp only; rw [lt_end]; rfl, hI⟩) [] rfl
  exact e
theorem m25_eq (env : List Dcl) (hl : envSz env ≤ 100000000) : ∃ r, m25 env = some r ∧ Says env r := by
  have hel := env_len env
  unfold m25
  obtain ⟨r, e, hr⟩ := m46_eq env hl
  rw [e, Option.bind_some]
  rcases hr with ⟨h1, rfl⟩ | ⟨h1, h2, rfl⟩ | ⟨h1, h2, rfl⟩
  · exact ⟨([], 8), rfl, .twice h1⟩
  · exact ⟨([], 9), rfl, .none h1 h2⟩
  · refine ⟨(graphL env, 0), ?_, .ok h1 h2⟩
    show Option.bind (loopN (m25_l2 env) FUEL (([] : List (List Int)), 0)) _ = _
    obtain ⟨r, e, rfl⟩ := loop_all (step := m25_l2 env) env (fun k (s : List (List Int)) => (s, k)) (fun a s => s = a.map (row env)) (fun r => r = graphL env) (by omega)
      (fun a x b s e hI => .inr ⟨s ++ [row env x], by
        have hx : x ∈ env := by rw [e]; simp
        have hxs := size_le hx
        have hul := uses_len x
        have hal : a.length < env.length := mid_lt e
        unfold m25_l2
        dsimp only
        rw [e, lt_mid, idx_mid]
        simp only [cond_true, Option.bind_some]
        rw [m47_eq x (by omega), Option.bind_some, ← e, m25_l0_eq env hl (uses x) (by omega) (h2 x hx), Option.bind_some, m25_l1_eq env hl _ (by simp; omega), Option.bind_some, guard_le (by rw [hI]; simp; omega)]
        rfl, by rw [hI]; simp⟩)
      (fun s hI => ⟨s, by unfold m25_l2; dsimp only; rw [lt_end]; rfl, hI⟩) [] rfl
    rw [e]; rfl
end Go.Proofs.Ytijcchddnnnmdaa
namespace Go.Proofs.Ytijcchddnnnmdaa
open Go.RowKit Go.Shelf
set_option linter.unusedSimpArgs false
set_option linter.unusedVariables false
theorem ag_54 : tyAgg Try.prog 54 = some (false, 1) := by kernel_rfl
theorem ag_75 : tyAgg Try.prog 75 = some (false, 1) := by kernel_rfl
theorem sl_75 : tySlice Try.prog 75 = some (4, 1) := by kernel_rfl
theorem z_4 : tyZero Try.prog 4 = some [.bool false] := by kernel_rfl
theorem z_75 : tyZero Try.prog 75 = some [.slice none 0 0] := by kernel_rfl
theorem el_4 : tyElem Try.prog 4 = some (1, 1) := by kernel_rfl
theorem en_22 : Enters Try.prog 22 := enters_of Try.func22 (by kernel_rfl) rfl
theorem en_43 : Enters Try.prog 43 := enters_of Try.func43 (by kernel_rfl) rfl
theorem en_44 : Enters Try.prog 44 := enters_of Try.func44 (by kernel_rfl) rfl
theorem en_60 : Enters Try.prog 60 := enters_of Try.func60 (by kernel_rfl) rfl
def m44f7 (a0 : Int) (a1 : Nat) (a2 : List Bool) : Option Bool :=
  Option.bind (idx a2 a0) fun (x1 : Bool) =>
  guardO (Nat.beq a2.length a1)
  (some (!x1))
set_option maxRecDepth 100000 in
set_option maxHeartbeats 2000000 in
theorem m44f7_ok (a0 : Int) (a1 : Nat) (a2 : List Bool) (r : Bool) (h0 : m44f7 a0 a1 a2 = some r) : CallM Try.prog 44 [.one (dI a0), .one (.ptr 0 0)] ⟨[(0, .cells 75 [.osl 1 0 a1 a1]), (1, .cells 4 (flatE a2))], [], 2⟩ (resOf [.one (dB r)]) ⟨[(0, .cells 75 [.osl 1 0 a1 a1]), (1, .cells 4 (flatE a2))], [], 2⟩ := by
  unfold m44f7 at h0
  refine CallM.of_bodyD ⟨[(3, .v (.one (dB r)))], [(0, .cells 75 [.osl 1 0 a1 a1]), (1, .cells 4 (flatE a2))], [], 2, 9, []⟩ rfl rfl en_44 (lb rfl) rfl (RAs.tmp rfl .nil) (fun w0 M V0 Q hv0 hQ0 => ?_)
  simp only [entry]
  refine XC.seq <| XC.region <| rA rfl rfl rfl <| XL.nil <| XQ.seq <| XC.seq <| XC.region <| rR rfl rfl rfl (RO.loadOwn ag_75 rfl rfl rfl) <| rM rfl rfl rfl ?_
  refine bindK h0 (fun x1 hx1 h0 => ?_)
  refine guardK h0 (fun g2 h0 => ?_)
  refine rR rfl rfl rfl (RO.indexO (α := Bool) sl_75 rfl rfl hx1 g2) <| rR rfl rfl rfl (RO.loadOF (α := Bool) (m := a0) (f := 0) ag_4 rfl rfl hx1 rfl) <| rR rfl rfl rfl (RO.not rfl) <| rA rfl rfl rfl <| XL.nil <| XQ.seq <| XC.ret ?_
  have e_ := Option.some.inj h0
  subst e_
  exact hQ0 _ _ _ (.inr rfl) rfl (stle (tR rfl tZ) (hR rfl (hR rfl hZ)) kZ rfl (Nat.le_trans hv0 (lb rfl)) rfl rfl rfl (bB rfl rfl (bF rfl bZ)) rfl rfl)
def m60f6_l0 (a0 : List Int) (a1 : Nat) (a2 : List Bool) (s1 : Int) : Option (LO Int (Unit ⊕ Int)) :=
  cond (decide (s1 < (a0.length : Int)))
    (Option.bind (idx a0 s1) fun (x3 : Int) =>
  Option.bind (m44f7 x3 a1 a2) fun (x4 : Bool) =>
  cond x4
    (some (.done (.inr s1)))
    (some (.next (w64 (s1 + 1)))))
    (some (.done (.inl ())))
def m60f6 (a0 : List Int) (a1 : Nat) (a2 : List Bool) : Option Int :=
  Option.bind (loopN (m60f6_l0 a0 a1 a2) FUEL 0) (Sum.elim (fun (o1 : Unit) => some (-1)) (fun o => some o))
set_option maxRecDepth 100000 in
set_option maxHeartbeats 2000000 in
theorem m60f6_ok (a0 : List Int) (a1 : Nat) (a2 : List Bool) (r : Int) (h0 : m60f6 a0 a1 a2 = some r) : CallM Try.prog 60 [.one (dS a0), .one (.fn 44 [(0, 0)])] ⟨[(0, .cells 75 [.osl 1 0 a1 a1]), (1, .cells 4 (flatE a2))], [], 2⟩ (resOf [.one (dI r)]) ⟨[(0, .cells 75 [.osl 1 0 a1 a1]), (1, .cells 4 (flatE a2))], [], 2⟩ := by
  unfold m60f6 at h0
  refine CallM.of_bodyD ⟨[(4, .v (.one (dI r)))], [(0, .cells 75 [.osl 1 0 a1 a1]), (1, .cells 4 (flatE a2))], [], 2, 19, []⟩ rfl rfl en_60 (lb rfl) rfl (RAs.tmp rfl .nil) (fun w0 M V0 Q hv0 hQ0 => ?_)
  simp only [entry]
  refine XC.seq <| XC.region <| rA rfl rfl rfl <| XL.nil <| XQ.seq <| XC.seq <| XC.seq <| XC.region <| rM rfl rfl rfl <| rR rfl rfl rfl (RO.lenE (α := Int) sl_54 rfl (.d _)) <| rM rfl rfl rfl <| XL.nil <| XQ.seq <| XC.block ?_
  refine XC.joinX 0 (fun (o1 : Unit) => ⟨[], [(0, .cells 75 [.osl 1 0 a1 a1]), (1, .cells 4 (flatE a2))], [], 2, 19, []⟩) (fun (o1 : Unit) => (some (-1)) = some r) ?_ ?_
  ·
   refine bindK h0 (fun o2 hl1 h0 => ?_)
   refine XC.loopM (m60f6_l0 a0 a1 a2) (fun s1 => ⟨[(0, .v (.one (dS a0))), (1, .v (.one (.fn 44 [(0, 0)]))), (7, .v (.one (dI (a0.length : Int)))), (8, .v (.one (dI s1)))], [(0, .cells 75 [.osl 1 0 a1 a1]), (1, .cells 4 (flatE a2))], [], 2, 19, []⟩) 0 o2 (stle (tR rfl (tR rfl (tR rfl (tR rfl tZ)))) (hR rfl (hR rfl hZ)) kZ rfl (Nat.le_trans hv0 (lb rfl)) rfl rfl rfl (bB rfl rfl (bF rfl bZ)) rfl rfl) hl1 (fun s1 n1 oo1 h1 ho1 => ?_)
   unfold m60f6_l0 at h1
   refine XC.seq <| XC.region <| rR rfl rfl rfl (RO.binInt rfl rfl rfl) <| XL.nil <| XQ.seq <| XC.seq ?_
   refine XC.cond (b := (decide (s1 < (a0.length : Int)))) rfl (fun c3 => ?_) (fun c3 => ?_)
   ·
    replace h1 := condT c3 h1
    refine XC.skip <| XQ.seq <| XC.seq <| XC.block <| XC.seq <| XC.region <| rM rfl rfl rfl <| rA rfl rfl rfl <| XL.nil <| XQ.seq <| XC.seq <| XC.region <| rM rfl rfl rfl <| rM rfl rfl rfl ?_
    refine rM rfl rfl rfl ?_
    refine bindK h1 (fun x4 hx4 h1 => ?_)
    refine rR rfl rfl rfl (RO.indexE (α := Int) sl_54 rfl (.d _) rfl hx4) <| rR rfl rfl rfl (RO.loadPel ag_3 rfl rfl) ?_
    refine bindK h1 (fun x5 hx5 h1 => ?_)
    refine XL.put rfl rfl (lb rfl) (OpOK.callG (hp1' := [(0, .cells 75 [.osl 1 0 a1 a1]), (1, .cells 4 (flatE a2))]) (tk1' := []) (hpF := []) (tkF := []) (res2 := resOf [.one (dB x5)]) (nx2 := 2) [0, 1] rfl rfl (m44f7_ok x4 a1 a2 x5 hx5) rfl rfl (qB rfl rfl (qF rfl qZ)) rfl rfl (gR rfl (gF rfl gZ)) jZ hZ kZ rfl rfl rfl rfl rfl (bB rfl rfl (bF rfl bZ)) rfl rfl rfl rfl) <| XL.nil <| XQ.seq ?_
    refine XC.cond (b := x5) rfl (fun c6 => ?_) (fun c6 => ?_)
    ·
     replace h1 := condT c6 h1
     refine XC.seq <| XC.region <| rM rfl rfl rfl <| rA rfl rfl rfl <| XL.nil <| XQ.seq <| XC.ret ?_
     have e_ := Option.some.inj h1
     subst e_
     have e_ : _ = _ := ho1
     subst e_
     try dsimp only [Sum.elim_inl, Sum.elim_inr] at h0
     have e_ := Option.some.inj h0
     subst e_
     exact hQ0 _ _ _ (.inr rfl) rfl (stle (tR rfl tZ) (hR rfl (hR rfl hZ)) kZ rfl (Nat.le_trans hv0 (lb rfl)) rfl rfl rfl (bB rfl rfl (bF rfl bZ)) rfl rfl)
    ·
     replace h1 := condF c6 h1
     refine XC.skip <| XQ.inBlock <| XQ.seq <| XC.region <| rR rfl rfl rfl (RO.binInt rfl rfl rfl) <| rM rfl rfl rfl <| XL.nil ?_
     have e_ := Option.some.inj h1
     subst e_
     refine XQ.nextM (w64 (s1 + 1)) (stle (tR rfl (tR rfl (tR rfl (tR rfl tZ)))) (hR rfl (hR rfl hZ)) kZ rfl (Nat.le_trans hv0 (lb rfl)) rfl rfl rfl (bB rfl rfl (bF rfl bZ)) rfl rfl) ho1
   ·
    replace h1 := condF c3 h1
    refine XC.exit <| XQ.thenE <| XQ.thenE ?_
    have e_ := Option.some.inj h1
    subst e_
    have e_ : _ = _ := ho1
    subst e_
    exact XQ.joinX () (stle tZ (hR rfl (hR rfl hZ)) kZ rfl (Nat.le_trans hv0 (lb rfl)) rfl rfl rfl (bB rfl rfl (bF rfl bZ)) rfl rfl) h0
  ·
   intro o1 h0
   refine XQ.blockX <| XQ.seq <| XC.seq <| XC.region <| rA rfl rfl rfl <| XL.nil <| XQ.seq <| XC.ret ?_
   have e_ := Option.some.inj h0
   subst e_
   exact hQ0 _ _ _ (.inr rfl) rfl (stle (tR rfl tZ) (hR rfl (hR rfl hZ)) kZ rfl (Nat.le_trans hv0 (lb rfl)) rfl rfl rfl (bB rfl rfl (bF rfl bZ)) rfl rfl)
def m43f5 (a0 : List Int) (a1 : Nat) (a2 : List Bool) : Option Bool :=
  Option.bind (m60f6 a0 a1 a2) fun (x1 : Int) =>
  some (decide (0 ≤ x1))
set_option maxRecDepth 100000 in
set_option maxHeartbeats 2000000 in
theorem m43f5_ok (a0 : List Int) (a1 : Nat) (a2 : List Bool) (r : Bool) (h0 : m43f5 a0 a1 a2 = some r) : CallM Try.prog 43 [.one (dS a0), .one (.fn 44 [(0, 0)])] ⟨[(0, .cells 75 [.osl 1 0 a1 a1]), (1, .cells 4 (flatE a2))], [], 2⟩ (resOf [.one (dB r)]) ⟨[(0, .cells 75 [.osl 1 0 a1 a1]), (1, .cells 4 (flatE a2))], [], 2⟩ := by
  unfold m43f5 at h0
  refine CallM.of_bodyD ⟨[(4, .v (.one (dB r)))], [(0, .cells 75 [.osl 1 0 a1 a1]), (1, .cells 4 (flatE a2))], [], 2, 9, []⟩ rfl rfl en_43 (lb rfl) rfl (RAs.tmp rfl .nil) (fun w0 M V0 Q hv0 hQ0 => ?_)
  simp only [entry]
  refine XC.seq <| XC.region <| rA rfl rfl rfl <| XL.nil <| XQ.seq <| XC.seq <| XC.region <| rM rfl rfl rfl <| rM rfl rfl rfl ?_
  refine bindK h0 (fun x1 hx1 h0 => ?_)
  refine XL.put rfl rfl (lb rfl) (OpOK.callG (hp1' := [(0, .cells 75 [.osl 1 0 a1 a1]), (1, .cells 4 (flatE a2))]) (tk1' := []) (hpF := []) (tkF := []) (res2 := resOf [.one (dI x1)]) (nx2 := 2) [0, 1] rfl rfl (m60f6_ok a0 a1 a2 x1 hx1) rfl rfl (qB rfl rfl (qF rfl qZ)) rfl rfl (gR rfl (gF rfl gZ)) jZ hZ kZ rfl rfl rfl rfl rfl (bB rfl rfl (bF rfl bZ)) rfl rfl rfl rfl) <| rR rfl rfl rfl (RO.binInt rfl rfl rfl) <| rA rfl rfl rfl <| XL.nil <| XQ.seq <| XC.ret ?_
  have e_ := Option.some.inj h0
  subst e_
  exact hQ0 _ _ _ (.inr rfl) rfl (stle (tR rfl tZ) (hR rfl (hR rfl hZ)) kZ rfl (Nat.le_trans hv0 (lb rfl)) rfl rfl rfl (bB rfl rfl (bF rfl bZ)) rfl rfl)
def m22_l0 (x9 : (List Bs)) (s2 : Int × (GMap Bs Int)) (s3 : Int × (GMap Bs Int)) : Option (LO (Int × (GMap Bs Int)) (((GMap Bs Int)) ⊕ (((List (List Int)) × (GMap Bs Int)) ⊕ Unit ⊕ Unit))) :=
  cond (decide (s3.1 < (x9.length : Int)))
    (Option.bind (idx x9 s3.1) fun (x12 : Bs) =>
  cond (gmHas s3.2 x12)
    (some (.done (.inr (.inr (.inl ())))))
    (some (.next ((w64 (s3.1 + 1)), (gmSet s3.2 x12 s2.1)))))
    (some (.done (.inl s3.2)))
def m22_l1 (a0 : List Dcl) (s2 : Int × (GMap Bs Int)) : Option (LO (Int × (GMap Bs Int)) (((GMap Bs Int)) ⊕ (((List (List Int)) × (GMap Bs Int)) ⊕ Unit ⊕ Unit))) :=
  cond (decide (s2.1 < (a0.length : Int)))
    (Option.bind (idx a0 s2.1) fun (x8 : Dcl) =>
  Option.bind (m37 x8) fun (x9 : (List Bs)) =>
  Option.bind (loopN (m22_l0 x9 s2) FUEL (0, s2.2)) (Sum.elim (fun (o10 : (GMap Bs Int)) => some (.next ((w64 (s2.1 + 1)), o10))) (fun o => some (.done (.inr o)))))
    (some (.done (.inl s2.2)))
def m22_l2 (x10 : (List Bs)) (o6 : (GMap Bs Int)) (s3 : (List Int) × Int) : Option (LO ((List Int) × Int) (((List Int)) ⊕ (((List (List Int)) × (GMap Bs Int)) ⊕ Unit ⊕ Unit))) :=
  cond (decide (s3.2 < (x10.length : Int)))
    (Option.bind (idx x10 s3.2) fun (x13 : Bs) =>
  cond (!(gmHas o6 x13))
    (some (.done (.inr (.inr (.inr ())))))
    (guardO (Nat.ble (s3.1.length + ([(gmVal o6 x13)]).length) 1000000000)
  (some (.next ((s3.1 ++ ([(gmVal o6 x13)])), (w64 (s3.2 + 1)))))))
    (some (.done (.inl s3.1)))
def m22_l3 (a0 : List Dcl) (o6 : (GMap Bs Int)) (s2 : Int × (List (List Int))) : Option (LO (Int × (List (List Int))) (((List (List Int))) ⊕ (((List (List Int)) × (GMap Bs Int)) ⊕ Unit ⊕ Unit))) :=
  cond (decide (s2.1 < (a0.length : Int)))
    (Option.bind (idx a0 s2.1) fun (x9 : Dcl) =>
  Option.bind (m53 x9) fun (x10 : (List Bs)) =>
  Option.bind (loopN (m22_l2 x10 o6) FUEL (([] : List Int), 0)) (Sum.elim (fun (o11 : (List Int)) => Option.bind (sortF o11) fun (x12 : List Int) =>
  Option.bind (compactF x12 ((Enc.encL o11).length)) fun (x13 : List Int) =>
  guardO (Nat.ble (s2.2.length + ([x13]).length) 1000000000)
  (some (.next ((w64 (s2.1 + 1)), (s2.2 ++ ([x13])))))) (fun o => some (.done (.inr o)))))
    (some (.done (.inl s2.2)))
def m22_l4 (y1 : (List (List Int)) × (GMap Bs Int)) (s1 : (List Int) × (List Bool)) (a0 : List Dcl) (s2 : Int) : Option (LO Int Int) :=
  cond (decide (s2 < (y1.1.length : Int)))
    (Option.bind (idx y1.1 s2) fun (x35 : List Int) =>
  Option.bind (Option.bind (idx s1.2 s2) fun (x37 : Bool) =>
  guardO (Nat.beq s1.2.length ((a0.length : Int).toNat))
  (cond (!x37)
    (Option.bind (m43f5 x35 ((a0.length : Int).toNat) s1.2) fun (x40 : Bool) =>
  some (!x40))
    (some false))) (fun (v36 : Bool) => cond v36
    (some (.done s2))
    (some (.next (w64 (s2 + 1))))))
    (some (.done (-1)))
def m22_l5 (a0 : List Dcl) (y1 : (List (List Int)) × (GMap Bs Int)) (s1 : (List Int) × (List Bool)) : Option (LO ((List Int) × (List Bool)) (((List Int) × (List Bool)) ⊕ ((List Int) × Int))) :=
  cond (decide ((s1.1.length : Int) < (a0.length : Int)))
    (Option.bind (loopN (m22_l4 y1 s1 a0) FUEL 0) (fun (o33 : Int) => cond (decide (o33 < 0))
    (some (.done (.inr (([] : List Int), 22))))
    (Option.bind (idx s1.2 o33) fun (x35 : Bool) =>
  guardO (Nat.beq s1.2.length ((a0.length : Int).toNat))
  (guardO (Nat.ble (s1.1.length + ([o33]).length) 1000000000)
  (some (.next ((s1.1 ++ ([o33])), (s1.2.set o33.toNat true))))))))
    (some (.done (.inl (s1.1, s1.2))))
def m22 (a0 : List Dcl) : Option ((List Int) × Int) :=
  Option.bind (Option.bind (loopN (m22_l1 a0) FUEL (0, gmNil)) (Sum.elim (fun (o6 : (GMap Bs Int)) => Option.bind (loopN (m22_l3 a0 o6) FUEL (0, ([] : List (List Int)))) (Sum.elim (fun (o7 : (List (List Int))) => some (.inl (o7, o6))) (fun o => some o))) (fun o => some o))) (Sum.elim (fun (y1 : (List (List Int)) × (GMap Bs Int)) => guardO (cond (decide (0 ≤ (a0.length : Int))) (Nat.ble (1 * (a0.length : Int).toNat) 281474976710656) false)
  (Option.bind (loopN (m22_l5 a0 y1) FUEL (([] : List Int), (List.replicate (a0.length : Int).toNat false))) (Sum.elim (fun (o31 : (List Int) × (List Bool)) => some (o31.1, 0)) (fun o => some o)))) (Sum.elim (fun (y2 : Unit) => some (([] : List Int), 8)) (fun (y3 : Unit) => some (([] : List Int), 9))))
set_option maxRecDepth 100000 in
set_option maxHeartbeats 2000000 in
theorem m22_ok (a0 : List Dcl) (r : (List Int) × Int) (h0 : m22 a0 = some r) : Fun Try.prog 22 [.one (dS a0)] (resOf [.one (dS r.1), .one (dI r.2)]) := by
  unfold m22 at h0
  refine Fun.of_bodyM 9 58 Try.func22 rfl en_22 rfl (lb rfl) (fun S w => ?_)
  simp only [entry]
  refine XC.seq <| XC.region <| rA rfl rfl rfl <| rA rfl rfl rfl <| XL.nil <| XQ.seq <| XC.seq <| XC.region <| rM rfl rfl rfl ?_
  refine bindK h0 (fun y5 h1 h0 => ?_)
  have hc4 : CallM Try.prog 34 [.one (dS a0)] ⟨[], [], 0⟩ (resOf (((Sum.elim (fun (y1 : (List (List Int)) × (GMap Bs Int)) => ([.agg [dA 3 y1.1, .mp 1], .one (dI 0)] : List AV)) (Sum.elim (fun (y2 : Unit) => ([.agg [dN, .d (.v (.map none))], .one (dI 8)] : List AV)) (fun (y3 : Unit) => ([.agg [dN, .d (.v (.map none))], .one (dI 9)] : List AV))))) y5)) ⟨(((Sum.elim (fun (y1 : (List (List Int)) × (GMap Bs Int)) => (⟨[(2, .v (.one (.ptr 0 0))), (3, .v (.one (dI 0)))], [(0, .cells 72 [dA 3 y1.1, .mp 1]), (1, .mp (gmE y1.2.1) y1.2.2)], [(3, some ⟨54, 1, (Enc.encL y1.1).length, []⟩)], 4, 88, []⟩ : St)) (Sum.elim (fun (y2 : Unit) => (⟨[(2, .v (.one (.ptr 0 0))), (3, .v (.one (dI 8)))], [(0, .cells 72 [dN, .d (.v (.map none))])], [], 4, 88, []⟩ : St)) (fun (y3 : Unit) => (⟨[(2, .v (.one (.ptr 0 0))), (3, .v (.one (dI 9)))], [(0, .cells 72 [dN, .d (.v (.map none))])], [], 6, 88, []⟩ : St))))) y5).hp, (((Sum.elim (fun (y1 : (List (List Int)) × (GMap Bs Int)) => (⟨[(2, .v (.one (.ptr 0 0))), (3, .v (.one (dI 0)))], [(0, .cells 72 [dA 3 y1.1, .mp 1]), (1, .mp (gmE y1.2.1) y1.2.2)], [(3, some ⟨54, 1, (Enc.encL y1.1).length, []⟩)], 4, 88, []⟩ : St)) (Sum.elim (fun (y2 : Unit) => (⟨[(2, .v (.one (.ptr 0 0))), (3, .v (.one (dI 8)))], [(0, .cells 72 [dN, .d (.v (.map none))])], [], 4, 88, []⟩ : St)) (fun (y3 : Unit) => (⟨[(2, .v (.one (.ptr 0 0))), (3, .v (.one (dI 9)))], [(0, .cells 72 [dN, .d (.v (.map none))])], [], 6, 88, []⟩ : St))))) y5).tk, (((Sum.elim (fun (y1 : (List (List Int)) × (GMap Bs Int)) => (⟨[(2, .v (.one (.ptr 0 0))), (3, .v (.one (dI 0)))], [(0, .cells 72 [dA 3 y1.1, .mp 1]), (1, .mp (gmE y1.2.1) y1.2.2)], [(3, some ⟨54, 1, (Enc.encL y1.1).length, []⟩)], 4, 88, []⟩ : St)) (Sum.elim (fun (y2 : Unit) => (⟨[(2, .v (.one (.ptr 0 0))), (3, .v (.one (dI 8)))], [(0, .cells 72 [dN, .d (.v (.map none))])], [], 4, 88, []⟩ : St)) (fun (y3 : Unit) => (⟨[(2, .v (.one (.ptr 0 0))), (3, .v (.one (dI 9)))], [(0, .cells 72 [dN, .d (.v (.map none))])], [], 6, 88, []⟩ : St))))) y5).nx⟩ := by
   refine CallM.of_bodyT y5 ((Sum.elim (fun (y1 : (List (List Int)) × (GMap Bs Int)) => (⟨[(2, .v (.one (.ptr 0 0))), (3, .v (.one (dI 0)))], [(0, .cells 72 [dA 3 y1.1, .mp 1]), (1, .mp (gmE y1.2.1) y1.2.2)], [(3, some ⟨54, 1, (Enc.encL y1.1).length, []⟩)], 4, 88, []⟩ : St)) (Sum.elim (fun (y2 : Unit) => (⟨[(2, .v (.one (.ptr 0 0))), (3, .v (.one (dI 8)))], [(0, .cells 72 [dN, .d (.v (.map none))])], [], 4, 88, []⟩ : St)) (fun (y3 : Unit) => (⟨[(2, .v (.one (.ptr 0 0))), (3, .v (.one (dI 9)))], [(0, .cells 72 [dN, .d (.v (.map none))])], [], 6, 88, []⟩ : St))))) ((Sum.elim (fun (y1 : (List (List Int)) × (GMap Bs Int)) => ([.agg [dA 3 y1.1, .mp 1], .one (dI 0)] : List AV)) (Sum.elim (fun (y2 : Unit) => ([.agg [dN, .d (.v (.map none))], .one (dI 8)] : List AV)) (fun (y3 : Unit) => ([.agg [dN, .d (.v (.map none))], .one (dI 9)] : List AV))))) rfl rfl en_34 (lb rfl) (fun z_ => by cases z_ with
     | inl _ => rfl
     | inr z_ => exact (by cases z_ <;> rfl)) (fun z_ => by cases z_ with
     | inl _ => exact (RAs.agg ag_72 rfl rfl rfl rfl (RAs.tmp rfl .nil))
     | inr z_ => exact (by cases z_ with
     | inl _ => exact (RAs.agg ag_72 rfl rfl rfl rfl (RAs.tmp rfl .nil))
     | inr _ => exact (RAs.agg ag_72 rfl rfl rfl rfl (RAs.tmp rfl .nil)))) (fun w0 M V0 Q hv1 hQ1 => ?_)
   simp only [entry]
   refine XC.seq <| XC.region <| XL.put rfl rfl (lb rfl) (OpOK.alloc z_72 rfl) <| rA rfl rfl rfl <| XL.nil <| XQ.seq <| XC.seq <| XC.region <| XL.put rfl rfl (lb rfl) (OpOK.makeMapG Bs Int) <| rR rfl rfl rfl (RO.build1 bd_72 rfl rfl rfl) <| XL.put rfl rfl (lb rfl) (OpOK.alloc z_72 rfl) <| XL.eff rfl rfl (OpOK.store ag_72 rfl rfl rfl rfl (lb rfl) rfl) <| XL.nil <| XQ.seq ?_
   refine XC.seq <| XC.seq <| XC.region <| rM rfl rfl rfl <| rR rfl rfl rfl (RO.lenE (α := Dcl) sl_22 rfl (.d _)) <| rM rfl rfl rfl <| XL.nil <| XQ.seq <| XC.block ?_
   refine XC.joinX 0 (fun (o6 : (GMap Bs Int)) => ⟨[(0, .v (.one (dS a0))), (2, .v (.one (.ptr 0 0))), (4, .v (.one (.ptr 2 0)))], [(0, .cells 72 [dN, .d (.v (.map none))]), (1, .mp (gmE o6.1) o6.2), (2, .cells 72 [dN, .mp 1])], [], 3, 88, []⟩) (fun (o6 : (GMap Bs Int)) => (Option.bind (loopN (m22_l3 a0 o6) FUEL (0, ([] : List (List Int)))) (Sum.elim (fun (o7 : (List (List Int))) => some (.inl (o7, o6))) (fun o => some o))) = some y5) ?_ ?_
   ·
    refine bindK h1 (fun o7 hl2 h1 => ?_)
    refine XC.loopM (m22_l1 a0) (fun s2 => ⟨[(0, .v (.one (dS a0))), (2, .v (.one (.ptr 0 0))), (4, .v (.one (.ptr 2 0))), (20, .v (.one (dS a0))), (21, .v (.one (dI (a0.length : Int)))), (22, .v (.one (dI s2.1)))], [(0, .cells 72 [dN, .d (.v (.map none))]), (1, .mp (gmE s2.2.1) s2.2.2), (2, .cells 72 [dN, .mp 1])], [], 3, 88, []⟩) (0, gmNil) o7 (stle (tR rfl (tR rfl (tR rfl (tR rfl (tR rfl (tR rfl tZ)))))) (hR rfl (hR rfl (hR rfl hZ))) kZ rfl (Nat.le_trans hv1 (lb rfl)) rfl rfl rfl (bB rfl rfl (bG rfl (bB rfl rfl bZ))) rfl rfl) hl2 (fun s2 n2 oo2 h2 ho2 => ?_)
    unfold m22_l1 at h2
    refine XC.seq <| XC.region <| rR rfl rfl rfl (RO.binInt rfl rfl rfl) <| XL.nil <| XQ.seq <| XC.seq ?_
    refine XC.cond (b := (decide (s2.1 < (a0.length : Int)))) rfl (fun c8 => ?_) (fun c8 => ?_)
    ·
     replace h2 := condT c8 h2
     refine XC.skip <| XQ.seq <| XC.seq <| XC.block <| XC.seq <| XC.region <| rM rfl rfl rfl ?_
     refine bindK h2 (fun x9 hx9 h2 => ?_)
     refine rR rfl rfl rfl (RO.indexE (α := Dcl) sl_22 rfl (.d _) rfl hx9) <| rR rfl rfl rfl (RO.loadPelCE (x9 : Dcl) ag_48 rfl) <| XL.put rfl rfl (lb rfl) (OpOK.alloc z_48 rfl) <| rA rfl rfl rfl <| XL.eff rfl rfl (OpOK.storeCE (x9 : Dcl) ag_48 rfl rfl rfl rfl rfl) <| XL.nil <| XQ.seq <| XC.seq <| XC.region <| rR rfl rfl rfl (RO.loadCE (x9 : Dcl) ag_48 rfl rfl) ?_
     refine bindK h2 (fun x10 hx10 h2 => ?_)
     refine XL.put rfl rfl (lb rfl) (OpOK.callFun (m37_ok x9 x10 hx10) rfl (.cons (.agg (.cons (.d _) (.cons (.d _) (.cons (.d _) (.cons (.d _) (.cons (.d _) (.cons (.d _) (.cons (.d _) (.cons (.d _) (.cons (.d _) (.cons (.d _) (.cons (.d _) (.cons (.d _) (.cons (.d _) (.cons (.d _) (.cons (.d _) (.cons (.d _) (.cons (.d _) (.cons (.d _) (.cons (.d _) (.cons (.d _) (.cons (.d _) (.cons (.d _) (.cons (.d _) .nil)))))))))))))))))))))))) .nil)) <| rR rfl rfl rfl (RO.lenE (α := Bs) sl_23 rfl (.d _)) <| rM rfl rfl rfl <| XL.nil <| XQ.seq <| XC.block ?_
     refine XC.joinX 2 (fun (o11 : (GMap Bs Int)) => ⟨[(0, .v (.one (dS a0))), (2, .v (.one (.ptr 0 0))), (4, .v (.one (.ptr 2 0))), (20, .v (.one (dS a0))), (21, .v (.one (dI (a0.length : Int)))), (22, .v (.one (dI s2.1)))], [(0, .cells 72 [dN, .d (.v (.map none))]), (1, .mp (gmE o11.1) o11.2), (2, .cells 72 [dN, .mp 1]), (3, .cells 48 (cE x9))], [], 4, 88, []⟩) (fun (o11 : (GMap Bs Int)) => (some (.next ((w64 (s2.1 + 1)), o11))) = some oo2) ?_ ?_
     ·
      refine bindK h2 (fun o12 hl3 h2 => ?_)
      refine XC.loopM (m22_l0 x10 s2) (fun s3 => ⟨[(0, .v (.one (dS a0))), (2, .v (.one (.ptr 0 0))), (4, .v (.one (.ptr 2 0))), (5, .v (.one (dI s2.1))), (20, .v (.one (dS a0))), (21, .v (.one (dI (a0.length : Int)))), (22, .v (.one (dI s2.1))), (28, .v (.one (dS x10))), (29, .v (.one (dI (x10.length : Int)))), (30, .v (.one (dI s3.1)))], [(0, .cells 72 [dN, .d (.v (.map none))]), (1, .mp (gmE s3.2.1) s3.2.2), (2, .cells 72 [dN, .mp 1]), (3, .cells 48 (cE x9))], [], 4, 88, []⟩) (0, s2.2) o12 (stle (tR rfl (tR rfl (tR rfl (tR rfl (tR rfl (tR rfl (tR rfl (tR rfl (tR rfl (tR rfl tZ)))))))))) (hR rfl (hR rfl (hR rfl (hR rfl hZ)))) kZ rfl (Nat.le_trans hv1 (lb rfl)) rfl rfl rfl (bB rfl rfl (bG rfl (bB rfl rfl (bB rfl rfl bZ)))) rfl rfl) hl3 (fun s3 n3 oo3 h3 ho3 => ?_)
      unfold m22_l0 at h3
      refine XC.seq <| XC.region <| rR rfl rfl rfl (RO.binInt rfl rfl rfl) <| XL.nil <| XQ.seq <| XC.seq ?_
      refine XC.cond (b := (decide (s3.1 < (x10.length : Int)))) rfl (fun c13 => ?_) (fun c13 => ?_)
      ·
       replace h3 := condT c13 h3
       refine XC.skip <| XQ.seq <| XC.seq <| XC.block <| XC.seq <| XC.region ?_
       refine bindK h3 (fun x14 hx14 h3 => ?_)
       refine rR rfl rfl rfl (RO.indexE (α := Bs) sl_23 rfl (.d _) rfl hx14) <| rR rfl rfl rfl (RO.loadPel ag_9 rfl rfl) <| rA rfl rfl rfl <| XL.nil <| XQ.seq <| XC.seq <| XC.seq <| XC.region <| rR rfl rfl rfl (RO.fieldOwn fo_72_1 rfl) <| rR rfl rfl rfl (RO.loadOwn ag_70 rfl rfl rfl) <| rM rfl rfl rfl <| rR rfl rfl rfl (RO.lookupGT (M := s3.2) (k := x14) mp_70 zok_int rfl rfl rfl) <| rM rfl rfl rfl <| rR rfl rfl rfl (RO.extract rfl rfl) ?_
       refine rR rfl rfl rfl (RO.extract rfl rfl) <| rA rfl rfl rfl <| rA rfl rfl rfl <| XL.nil <| XQ.seq <| XC.seq <| XC.region <| rM rfl rfl rfl <| XL.nil <| XQ.seq ?_
       refine XC.cond (b := (gmHas s3.2 x14)) rfl (fun c15 => ?_) (fun c15 => ?_)
       ·
        replace h3 := condT c15 h3
        refine XC.seq <| XC.region <| rR rfl rfl rfl (RO.build0 bd_72 rfl ) <| XL.eff rfl rfl (OpOK.store ag_72 rfl rfl rfl rfl (lb rfl) rfl) <| rA rfl rfl rfl <| XL.nil <| XQ.seq <| XC.ret ?_
        have e_ := Option.some.inj h3
        subst e_
        have e_ : _ = _ := ho3
        subst e_
        try dsimp only [Sum.elim_inl, Sum.elim_inr] at h2
        have e_ := Option.some.inj h2
        subst e_
        have e_ : _ = _ := ho2
        subst e_
        try dsimp only [Sum.elim_inl, Sum.elim_inr] at h1
        have e_ := Option.some.inj h1
        subst e_
        exact hQ1 _ _ _ (.inr rfl) rfl (show StLe _ _ ⟨[(2, .v (.one (.ptr 0 0))), (3, .v (.one (dI 8)))], [(0, .cells 72 [dN, .d (.v (.map none))])], [], 4, 88, []⟩ from (stle (tR rfl (tR rfl tZ)) (hR rfl hZ) kZ rfl (Nat.le_trans hv1 (lb rfl)) rfl rfl rfl (bB rfl rfl bZ) rfl rfl))
       ·
        replace h3 := condF c15 h3
        refine XC.skip <| XQ.seq <| XC.region <| rR rfl rfl rfl (RO.fieldOwn fo_72_1 rfl) <| rR rfl rfl rfl (RO.loadOwn ag_70 rfl rfl rfl) <| rM rfl rfl rfl <| rM rfl rfl rfl <| XL.eff rfl rfl (OpOK.mapSetG (M := s3.2) (k := x14) (v := s2.1) mp_70 rfl rfl rfl rfl rfl) <| XL.nil <| XQ.inBlock <| XQ.seq <| XC.region <| rR rfl rfl rfl (RO.binInt rfl rfl rfl) <| rM rfl rfl rfl ?_
        refine XL.nil ?_
        have e_ := Option.some.inj h3
        subst e_
        refine XQ.nextM ((w64 (s3.1 + 1)), (gmSet s3.2 x14 s2.1)) (stle (tR rfl (tR rfl (tR rfl (tR rfl (tR rfl (tR rfl (tR rfl (tR rfl (tR rfl (tR rfl tZ)))))))))) (hR rfl (hR rfl (hR rfl (hR rfl hZ)))) kZ rfl (Nat.le_trans hv1 (lb rfl)) rfl rfl rfl (bB rfl rfl (bG rfl (bB rfl rfl (bB rfl rfl bZ)))) rfl rfl) ho3
      ·
       replace h3 := condF c13 h3
       refine XC.exit <| XQ.thenE <| XQ.thenE ?_
       have e_ := Option.some.inj h3
       subst e_
       have e_ : _ = _ := ho3
       subst e_
       exact XQ.joinX s3.2 (stle (tR rfl (tR rfl (tR rfl (tR rfl (tR rfl (tR rfl tZ)))))) (hR rfl (hR rfl (hR rfl (hR rfl hZ)))) kZ rfl (Nat.le_trans hv1 (lb rfl)) rfl rfl rfl (bB rfl rfl (bG rfl (bB rfl rfl (bB rfl rfl bZ)))) rfl rfl) h2
     ·
      intro o11 h2
      refine XQ.blockX <| XQ.inBlock <| XQ.seq <| XC.region <| rR rfl rfl rfl (RO.binInt rfl rfl rfl) <| rM rfl rfl rfl <| XL.nil ?_
      have e_ := Option.some.inj h2
      subst e_
      refine XQ.nextM ((w64 (s2.1 + 1)), o11) (stle (tR rfl (tR rfl (tR rfl (tR rfl (tR rfl (tR rfl tZ)))))) (hR rfl (hR rfl (hR rfl hZ))) kZ rfl (Nat.le_trans hv1 (lb rfl)) rfl rfl rfl (bB rfl rfl (bG rfl (bB rfl rfl bZ))) rfl rfl) ho2
    ·
     replace h2 := condF c8 h2
     refine XC.exit <| XQ.thenE <| XQ.thenE ?_
     have e_ := Option.some.inj h2
     subst e_
     have e_ : _ = _ := ho2
     subst e_
     exact XQ.joinX s2.2 (stle (tR rfl (tR rfl (tR rfl tZ))) (hR rfl (hR rfl (hR rfl hZ))) kZ rfl (Nat.le_trans hv1 (lb rfl)) rfl rfl rfl (bB rfl rfl (bG rfl (bB rfl rfl bZ))) rfl rfl) h1
   ·
    intro o6 h1
    refine XQ.blockX <| XQ.seq <| XC.seq <| XC.seq <| XC.region <| rM rfl rfl rfl <| rR rfl rfl rfl (RO.lenE (α := Dcl) sl_22 rfl (.d _)) <| rM rfl rfl rfl <| XL.nil <| XQ.seq <| XC.block ?_
    refine XC.joinX 4 (fun (o16 : (List (List Int))) => ⟨[(2, .v (.one (.ptr 0 0))), (4, .v (.one (.ptr 2 0)))], [(0, .cells 72 [dN, .d (.v (.map none))]), (1, .mp (gmE o6.1) o6.2), (2, .cells 72 [dA 3 o16, .mp 1])], [(3, some ⟨54, 1, (Enc.encL o16).length, []⟩)], 4, 88, []⟩) (fun (o16 : (List (List Int))) => (some (.inl (o16, o6))) = some y5) ?_ ?_
    ·
     refine XC.adoptC (i := 2) (off := 0) 54 1 rfl rfl ?_
     refine bindK h1 (fun o17 hl2 h1 => ?_)
     refine XC.loopM (m22_l3 a0 o6) (fun s2 => ⟨[(2, .v (.one (.ptr 0 0))), (4, .v (.one (.ptr 2 0))), (49, .v (.one (dS a0))), (50, .v (.one (dI (a0.length : Int)))), (51, .v (.one (dI s2.1)))], [(0, .cells 72 [dN, .d (.v (.map none))]), (1, .mp (gmE o6.1) o6.2), (2, .cells 72 [dA 3 s2.2, .mp 1])], [(3, some ⟨54, 1, (Enc.encL s2.2).length, []⟩)], 4, 88, []⟩) (0, ([] : List (List Int))) o17 (stle (tR rfl (tR rfl (tR rfl (tR rfl (tR rfl tZ))))) (hR rfl (hR rfl (hR rfl hZ))) (kR rfl kZ) rfl (Nat.le_trans hv1 (lb rfl)) rfl rfl rfl (bB rfl rfl (bG rfl (bB rfl rfl bZ))) rfl rfl) hl2 (fun s2 n2 oo2 h2 ho2 => ?_)
     unfold m22_l3 at h2
     refine XC.seq <| XC.region <| rR rfl rfl rfl (RO.binInt rfl rfl rfl) <| XL.nil <| XQ.seq <| XC.seq ?_
     refine XC.cond (b := (decide (s2.1 < (a0.length : Int)))) rfl (fun c18 => ?_) (fun c18 => ?_)
     ·
      replace h2 := condT c18 h2
      refine XC.skip <| XQ.seq <| XC.seq <| XC.block <| XC.seq <| XC.region ?_
      refine bindK h2 (fun x19 hx19 h2 => ?_)
      refine rR rfl rfl rfl (RO.indexE (α := Dcl) sl_22 rfl (.d _) rfl hx19) <| rR rfl rfl rfl (RO.loadPelCE (x19 : Dcl) ag_48 rfl) <| XL.put rfl rfl (lb rfl) (OpOK.alloc z_48 rfl) <| XL.eff rfl rfl (OpOK.storeCE (x19 : Dcl) ag_48 rfl rfl rfl rfl rfl) <| XL.nil <| XQ.seq <| XC.seq <| XC.region <| rA rfl rfl rfl <| XL.nil <| XQ.seq <| XC.seq <| XC.seq <| XC.region ?_
      refine rR rfl rfl rfl (RO.loadCE (x19 : Dcl) ag_48 rfl rfl) ?_
      refine bindK h2 (fun x20 hx20 h2 => ?_)
      refine XL.put rfl rfl (lb rfl) (OpOK.callFun (m53_ok x19 x20 hx20) rfl (.cons (.agg (.cons (.d _) (.cons (.d _) (.cons (.d _) (.cons (.d _) (.cons (.d _) (.cons (.d _) (.cons (.d _) (.cons (.d _) (.cons (.d _) (.cons (.d _) (.cons (.d _) (.cons (.d _) (.cons (.d _) (.cons (.d _) (.cons (.d _) (.cons (.d _) (.cons (.d _) (.cons (.d _) (.cons (.d _) (.cons (.d _) (.cons (.d _) (.cons (.d _) (.cons (.d _) .nil)))))))))))))))))))))))) .nil)) <| rR rfl rfl rfl (RO.lenE (α := Bs) sl_23 rfl (.d _)) <| rM rfl rfl rfl <| XL.nil <| XQ.seq <| XC.block ?_
      refine XC.joinX 6 (fun (o21 : (List Int)) => ⟨[(2, .v (.one (.ptr 0 0))), (4, .v (.one (.ptr 2 0))), (13, .v (.one (.apv 5 1 ((Enc.encL o21).length) []))), (49, .v (.one (dS a0))), (50, .v (.one (dI (a0.length : Int)))), (51, .v (.one (dI s2.1)))], [(0, .cells 72 [dN, .d (.v (.map none))]), (1, .mp (gmE o6.1) o6.2), (2, .cells 72 [dA 3 s2.2, .mp 1]), (4, .cells 48 (cE x19))], [(3, some ⟨54, 1, (Enc.encL s2.2).length, []⟩), (5, some ⟨3, 1, (Enc.encL o21).length, (Enc.encL o21).flatten⟩)], 6, 88, []⟩) (fun (o21 : (List Int)) => (Option.bind (sortF o21) fun (x22 : List Int) =>
        Option.bind (compactF x22 ((Enc.encL o21).length)) fun (x23 : List Int) =>
        guardO (Nat.ble (s2.2.length + ([x23]).length) 1000000000)
        (some (.next ((w64 (s2.1 + 1)), (s2.2 ++ ([x23])))))) = some oo2) ?_ ?_
      ·
       refine XC.adoptT (t := 13) 3 1 rfl <| XC.privT (α := Int) (t := 13) rfl rfl ?_
       refine bindK h2 (fun o22 hl3 h2 => ?_)
       refine XC.loopM (m22_l2 x20 o6) (fun s3 => ⟨[(2, .v (.one (.ptr 0 0))), (4, .v (.one (.ptr 2 0))), (13, .v (.one (.apv 5 1 ((Enc.encL s3.1).length) []))), (49, .v (.one (dS a0))), (50, .v (.one (dI (a0.length : Int)))), (51, .v (.one (dI s2.1))), (56, .v (.one (dS x20))), (57, .v (.one (dI (x20.length : Int)))), (58, .v (.one (dI s3.2)))], [(0, .cells 72 [dN, .d (.v (.map none))]), (1, .mp (gmE o6.1) o6.2), (2, .cells 72 [dA 3 s2.2, .mp 1]), (4, .cells 48 (cE x19))], [(3, some ⟨54, 1, (Enc.encL s2.2).length, []⟩), (5, some ⟨3, 1, (Enc.encL s3.1).length, (Enc.encL s3.1).flatten⟩)], 6, 88, []⟩) (([] : List Int), 0) o22 (stle (tR rfl (tR rfl (tR rfl (tR rfl (tR rfl (tR rfl (tR rfl (tR rfl (tR rfl tZ))))))))) (hR rfl (hR rfl (hR rfl (hR rfl hZ)))) (kR rfl (kR rfl kZ)) rfl (Nat.le_trans hv1 (lb rfl)) rfl rfl rfl (bB rfl rfl (bG rfl (bB rfl rfl (bB rfl rfl bZ)))) rfl rfl) hl3 (fun s3 n3 oo3 h3 ho3 => ?_)
       unfold m22_l2 at h3
       refine XC.seq <| XC.region <| rR rfl rfl rfl (RO.binInt rfl rfl rfl) <| XL.nil <| XQ.seq <| XC.seq ?_
       refine XC.cond (b := (decide (s3.2 < (x20.length : Int)))) rfl (fun c23 => ?_) (fun c23 => ?_)
       ·
        replace h3 := condT c23 h3
        refine XC.skip <| XQ.seq <| XC.seq <| XC.block <| XC.seq <| XC.region ?_
        refine bindK h3 (fun x24 hx24 h3 => ?_)
        refine rR rfl rfl rfl (RO.indexE (α := Bs) sl_23 rfl (.d _) rfl hx24) <| rR rfl rfl rfl (RO.loadPel ag_9 rfl rfl) <| rA rfl rfl rfl <| XL.nil <| XQ.seq <| XC.seq <| XC.region <| rR rfl rfl rfl (RO.fieldOwn fo_72_1 rfl) <| rR rfl rfl rfl (RO.loadOwn ag_70 rfl rfl rfl) <| rM rfl rfl rfl <| rR rfl rfl rfl (RO.lookupGT (M := o6) (k := x24) mp_70 zok_int rfl rfl rfl) <| rM rfl rfl rfl <| rR rfl rfl rfl (RO.extract rfl rfl) <| rR rfl rfl rfl (RO.extract rfl rfl) ?_
        refine rA rfl rfl rfl <| rA rfl rfl rfl <| XL.nil <| XQ.seq <| XC.seq <| XC.seq <| XC.region <| rM rfl rfl rfl <| rR rfl rfl rfl (RO.not rfl) <| XL.nil <| XQ.seq ?_
        refine XC.cond (b := (!(gmHas o6 x24))) rfl (fun c25 => ?_) (fun c25 => ?_)
        ·
         replace h3 := condT c25 h3
         refine XC.seq <| XC.region <| rR rfl rfl rfl (RO.build0 bd_72 rfl ) <| XL.eff rfl rfl (OpOK.store ag_72 rfl rfl rfl rfl (lb rfl) rfl) <| rA rfl rfl rfl <| XL.nil <| XQ.seq <| XC.ret ?_
         have e_ := Option.some.inj h3
         subst e_
         have e_ : _ = _ := ho3
         subst e_
         try dsimp only [Sum.elim_inl, Sum.elim_inr] at h2
         have e_ := Option.some.inj h2
         subst e_
         have e_ : _ = _ := ho2
         subst e_
         try dsimp only [Sum.elim_inl, Sum.elim_inr] at h1
         have e_ := Option.some.inj h1
         subst e_
         exact hQ1 _ _ _ (.inr rfl) rfl (show StLe _ _ ⟨[(2, .v (.one (.ptr 0 0))), (3, .v (.one (dI 9)))], [(0, .cells 72 [dN, .d (.v (.map none))])], [], 6, 88, []⟩ from (stle (tR rfl (tR rfl tZ)) (hR rfl hZ) kZ rfl (Nat.le_trans hv1 (lb rfl)) rfl rfl rfl (bB rfl rfl bZ) rfl rfl))
        ·
         replace h3 := condF c25 h3
         refine XC.skip <| XQ.seq <| XC.region <| rM rfl rfl rfl <| rM rfl rfl rfl <| XL.put rfl rfl (lb rfl) (OpOK.lit1E (α := Int) ((gmVal o6 x24)) sl_54 z_3 rfl rfl (lb rfl) (lb rfl) rfl rfl (.cons (.d _) .nil) rfl) ?_
         refine guardK h3 (fun g26 h3 => ?_)
         refine XL.put rfl rfl (lb rfl) (OpOK.appendPr (α := Int) (l := s3.1) (l2 := ([(gmVal o6 x24)] : List Int)) sl_54 el_3 rfl rfl rfl rfl (.app _ _) rfl g26) <| rA rfl rfl rfl <| XL.nil <| XQ.inBlock <| XQ.seq <| XC.region <| rR rfl rfl rfl (RO.binInt rfl rfl rfl) <| rM rfl rfl rfl <| XL.nil ?_
         have e_ := Option.some.inj h3
         subst e_
         refine XQ.nextM ((s3.1 ++ ([(gmVal o6 x24)])), (w64 (s3.2 + 1))) (stle (tR rfl (tR rfl (tR rfl (tR rfl (tR rfl (tR rfl (tR rfl (tR rfl (tR rfl tZ))))))))) (hR rfl (hR rfl (hR rfl (hR rfl hZ)))) (kR rfl (kR rfl kZ)) rfl (Nat.le_trans hv1 (lb rfl)) rfl rfl rfl (bB rfl rfl (bG rfl (bB rfl rfl (bB rfl rfl bZ)))) rfl rfl) ho3
       ·
        replace h3 := condF c23 h3
        refine XC.exit <| XQ.thenE <| XQ.thenE ?_
        have e_ := Option.some.inj h3
        subst e_
        have e_ : _ = _ := ho3
        subst e_
        exact XQ.joinX s3.1 (stle (tR rfl (tR rfl (tR rfl (tR rfl (tR rfl (tR rfl tZ)))))) (hR rfl (hR rfl (hR rfl (hR rfl hZ)))) (kR rfl (kR rfl kZ)) rfl (Nat.le_trans hv1 (lb rfl)) rfl rfl rfl (bB rfl rfl (bG rfl (bB rfl rfl (bB rfl rfl bZ)))) rfl rfl) h2
      ·
       intro o21 h2
       refine XQ.blockX <| XQ.seq <| XC.seq <| XC.region <| rM rfl rfl rfl ?_
       refine bindK h2 (fun x27 hx27 h2 => ?_)
       refine XL.put rfl rfl (lb rfl) (OpOK.callG (hp1' := []) (tk1' := [(5, some ⟨3, 1, (Enc.encL o21).length, (Enc.encL x27).flatten⟩)]) (hpF := [(0, .cells 72 [dN, .d (.v (.map none))]), (1, .mp (gmE o6.1) o6.2), (2, .cells 72 [dA 3 s2.2, .mp 1]), (4, .cells 48 (cE x19))]) (tkF := [(3, some ⟨54, 1, (Enc.encL s2.2).length, []⟩)]) (res2 := resOf []) (nx2 := 6) [5] rfl rfl (sortF_ok o21 x27 hx27) rfl rfl qZ rfl rfl gZ (jR rfl jZ) (hR rfl (hR rfl (hR rfl (hR rfl hZ)))) (kR rfl kZ) rfl rfl rfl rfl rfl bZ rfl rfl rfl rfl) <| XL.nil <| XQ.seq ?_
       refine XC.anyRun [3, 5, 7] [(0, 1), (1, 1)] mixed (by kernel_rfl) (by kernel_rfl) (by kernel_rfl) ?_
       refine RunA.rd rfl rfl rfl (OpOK.of_ro (RO.fieldOwn fo_72_0 rfl)) rfl <| RunA.rd rfl rfl rfl (OpOK.of_ro (RO.loadOwn ag_57 rfl rfl rfl)) rfl <| RunA.rd rfl rfl rfl (OpOK.of_ro (RO.move rfl)) rfl ?_
       refine bindK h2 (fun x28 hx28 h2 => ?_)
       refine RunA.eff rfl rfl rfl (OpOK.callG (hp1' := []) (tk1' := [(6, some ⟨3, 1, (Enc.encL x28).length, []⟩)]) (hpF := [(0, .cells 72 [dN, .d (.v (.map none))]), (1, .mp (gmE o6.1) o6.2), (2, .cells 72 [dA 3 s2.2, .mp 1]), (4, .cells 48 (cE x19))]) (tkF := [(3, some ⟨54, 1, (Enc.encL s2.2).length, []⟩)]) (res2 := resOf [.one (dA 6 x28)]) (nx2 := 7) [5] rfl rfl (compactF_ok x27 ((Enc.encL o21).length) x28 hx28) rfl rfl qZ rfl rfl gZ (jR rfl jZ) (hR rfl (hR rfl (hR rfl (hR rfl hZ)))) (kR rfl kZ) rfl rfl rfl rfl rfl bZ rfl rfl rfl rfl) rfl <| RunA.rd rfl rfl rfl (OpOK.data1E (α := List Int) (x28) sl_57 z_54 rfl rfl (lb rfl) rfl rfl (.cons (.app _ _ _) .nil) rfl) rfl ?_
       refine guardK h2 (fun g29 h2 => ?_)
       refine RunA.eff rfl rfl rfl (OpOK.appendE (α := List Int) sl_57 el_54 rfl rfl rfl rfl rfl (.d _) g29) rfl <| RunA.rd rfl rfl rfl (OpOK.of_ro (RO.fieldOwn fo_72_0 rfl)) rfl <| RunA.eff rfl rfl rfl (OpOK.store ag_57 rfl rfl rfl rfl (lb rfl) rfl) rfl ?_
       refine RunA.nil ⟨?ex, _, _, rfl, ?_⟩
       case ex => exact ⟨⟨_, rfl, _, _, rfl, rfl, rfl, .inl ⟨rfl, _, OpOK.of_ro (RO.fieldOwn fo_72_0 rfl), rfl⟩⟩, ⟨_, rfl, _, _, rfl, rfl, rfl, .inl ⟨rfl, _, OpOK.of_ro (RO.loadOwn ag_57 rfl rfl rfl), rfl⟩⟩, trivial⟩
       refine XQ.less (st' := ⟨[(2, .v (.one (.ptr 0 0))), (4, .v (.one (.ptr 2 0))), (49, .v (.one (dS a0))), (50, .v (.one (dI (a0.length : Int)))), (51, .v (.one (dI s2.1)))], [(0, .cells 72 [dN, .d (.v (.map none))]), (1, .mp (gmE o6.1) o6.2), (2, .cells 72 [dA 3 ((s2.2 ++ ([x28])) : List (List Int)), .mp 1]), (4, .cells 48 (cE x19))], [(3, some ⟨54, 1, (Enc.encL ((s2.2 ++ ([x28])) : List (List Int))).length, []⟩), (6, some ⟨3, 1, (Enc.encL x28).length, []⟩)], 7, 88, []⟩) (stle (tR rfl (tR rfl (tR rfl (tR rfl (tR rfl tZ))))) (hR rfl (hR rfl (hR rfl (hR rfl hZ)))) (kR rfl (kR rfl kZ)) rfl (Nat.le_trans hv1 (lb rfl)) rfl rfl rfl (bB rfl rfl (bG rfl (bB rfl rfl (bB rfl rfl bZ)))) rfl rfl) <| XQ.inBlock <| XQ.seq <| XC.region <| rR rfl rfl rfl (RO.binInt rfl rfl rfl) <| rM rfl rfl rfl <| XL.nil ?_
       have e_ := Option.some.inj h2
       subst e_
       refine XQ.nextM ((w64 (s2.1 + 1)), (s2.2 ++ ([x28]))) (stle (tR rfl (tR rfl (tR rfl (tR rfl (tR rfl tZ))))) (hR rfl (hR rfl (hR rfl hZ))) (kR rfl kZ) rfl (Nat.le_trans hv1 (lb rfl)) rfl rfl rfl (bB rfl rfl (bG rfl (bB rfl rfl bZ))) rfl rfl) ho2
     ·
      replace h2 := condF c18 h2
      refine XC.exit <| XQ.thenE <| XQ.thenE ?_
      have e_ := Option.some.inj h2
      subst e_
      have e_ : _ = _ := ho2
      subst e_
      exact XQ.joinX s2.2 (stle (tR rfl (tR rfl tZ)) (hR rfl (hR rfl (hR rfl hZ))) (kR rfl kZ) rfl (Nat.le_trans hv1 (lb rfl)) rfl rfl rfl (bB rfl rfl (bG rfl (bB rfl rfl bZ))) rfl rfl) h1
    ·
     intro o16 h1
     refine XQ.blockX <| XQ.seq <| XC.seq <| XC.region <| rR rfl rfl rfl (RO.loadOwnAgg ag_72 rfl rfl rfl rfl) <| XL.eff rfl rfl (OpOK.store ag_72 rfl rfl rfl rfl (lb rfl) rfl) <| rA rfl rfl rfl <| XL.nil <| XQ.seq <| XC.ret ?_
     have e_ := Option.some.inj h1
     subst e_
     exact hQ1 _ _ _ (.inr rfl) rfl (show StLe _ _ ⟨[(2, .v (.one (.ptr 0 0))), (3, .v (.one (dI 0)))], [(0, .cells 72 [dA 3 o16, .mp 1]), (1, .mp (gmE o6.1) o6.2)], [(3, some ⟨54, 1, (Enc.encL o16).length, []⟩)], 4, 88, []⟩ from (stle (tR rfl (tR rfl tZ)) (hR rfl (hR rfl hZ)) (kR rfl kZ) rfl (Nat.le_trans hv1 (lb rfl)) rfl rfl rfl (bB rfl rfl (bG rfl bZ)) rfl rfl))
  refine sumK (C := fun q_ => CallM Try.prog 34 [.one (dS a0)] ⟨[], [], 0⟩ (resOf (((Sum.elim (fun (y1 : (List (List Int)) × (GMap Bs Int)) => ([.agg [dA 3 y1.1, .mp 1], .one (dI 0)] : List AV)) (Sum.elim (fun (y2 : Unit) => ([.agg [dN, .d (.v (.map none))], .one (dI 8)] : List AV)) (fun (y3 : Unit) => ([.agg [dN, .d (.v (.map none))], .one (dI 9)] : List AV))))) q_)) ⟨(((Sum.elim (fun (y1 : (List (List Int)) × (GMap Bs Int)) => (⟨[(2, .v (.one (.ptr 0 0))), (3, .v (.one (dI 0)))], [(0, .cells 72 [dA 3 y1.1, .mp 1]), (1, .mp (gmE y1.2.1) y1.2.2)], [(3, some ⟨54, 1, (Enc.encL y1.1).length, []⟩)], 4, 88, []⟩ : St)) (Sum.elim (fun (y2 : Unit) => (⟨[(2, .v (.one (.ptr 0 0))), (3, .v (.one (dI 8)))], [(0, .cells 72 [dN, .d (.v (.map none))])], [], 4, 88, []⟩ : St)) (fun (y3 : Unit) => (⟨[(2, .v (.one (.ptr 0 0))), (3, .v (.one (dI 9)))], [(0, .cells 72 [dN, .d (.v (.map none))])], [], 6, 88, []⟩ : St))))) q_).hp, (((Sum.elim (fun (y1 : (List (List Int)) × (GMap Bs Int)) => (⟨[(2, .v (.one (.ptr 0 0))), (3, .v (.one (dI 0)))], [(0, .cells 72 [dA 3 y1.1, .mp 1]), (1, .mp (gmE y1.2.1) y1.2.2)], [(3, some ⟨54, 1, (Enc.encL y1.1).length, []⟩)], 4, 88, []⟩ : St)) (Sum.elim (fun (y2 : Unit) => (⟨[(2, .v (.one (.ptr 0 0))), (3, .v (.one (dI 8)))], [(0, .cells 72 [dN, .d (.v (.map none))])], [], 4, 88, []⟩ : St)) (fun (y3 : Unit) => (⟨[(2, .v (.one (.ptr 0 0))), (3, .v (.one (dI 9)))], [(0, .cells 72 [dN, .d (.v (.map none))])], [], 6, 88, []⟩ : St))))) q_).tk, (((Sum.elim (fun (y1 : (List (List Int)) × (GMap Bs Int)) => (⟨[(2, .v (.one (.ptr 0 0))), (3, .v (.one (dI 0)))], [(0, .cells 72 [dA 3 y1.1, .mp 1]), (1, .mp (gmE y1.2.1) y1.2.2)], [(3, some ⟨54, 1, (Enc.encL y1.1).length, []⟩)], 4, 88, []⟩ : St)) (Sum.elim (fun (y2 : Unit) => (⟨[(2, .v (.one (.ptr 0 0))), (3, .v (.one (dI 8)))], [(0, .cells 72 [dN, .d (.v (.map none))])], [], 4, 88, []⟩ : St)) (fun (y3 : Unit) => (⟨[(2, .v (.one (.ptr 0 0))), (3, .v (.one (dI 9)))], [(0, .cells 72 [dN, .d (.v (.map none))])], [], 6, 88, []⟩ : St))))) q_).nx⟩) hc4 h0 (fun y1 hc4 h0 => ?_) (fun z_ hc4 h0 => sumK (C := fun q_ => CallM Try.prog 34 [.one (dS a0)] ⟨[], [], 0⟩ (resOf (((Sum.elim (fun (y1 : (List (List Int)) × (GMap Bs Int)) => ([.agg [dA 3 y1.1, .mp 1], .one (dI 0)] : List AV)) (Sum.elim (fun (y2 : Unit) => ([.agg [dN, .d (.v (.map none))], .one (dI 8)] : List AV)) (fun (y3 : Unit) => ([.agg [dN, .d (.v (.map none))], .one (dI 9)] : List AV))))) (.inr q_))) ⟨(((Sum.elim (fun (y1 : (List (List Int)) × (GMap Bs Int)) => (⟨[(2, .v (.one (.ptr 0 0))), (3, .v (.one (dI 0)))], [(0, .cells 72 [dA 3 y1.1, .mp 1]), (1, .mp (gmE y1.2.1) y1.2.2)], [(3, some ⟨54, 1, (Enc.encL y1.1).length, []⟩)], 4, 88, []⟩ : St)) (Sum.elim (fun (y2 : Unit) => (⟨[(2, .v (.one (.ptr 0 0))), (3, .v (.one (dI 8)))], [(0, .cells 72 [dN, .d (.v (.map none))])], [], 4, 88, []⟩ : St)) (fun (y3 : Unit) => (⟨[(2, .v (.one (.ptr 0 0))), (3, .v (.one (dI 9)))], [(0, .cells 72 [dN, .d (.v (.map none))])], [], 6, 88, []⟩ : St))))) (.inr q_)).hp, (((Sum.elim (fun (y1 : (List (List Int)) × (GMap Bs Int)) => (⟨[(2, .v (.one (.ptr 0 0))), (3, .v (.one (dI 0)))], [(0, .cells 72 [dA 3 y1.1, .mp 1]), (1, .mp (gmE y1.2.1) y1.2.2)], [(3, some ⟨54, 1, (Enc.encL y1.1).length, []⟩)], 4, 88, []⟩ : St)) (Sum.elim (fun (y2 : Unit) => (⟨[(2, .v (.one (.ptr 0 0))), (3, .v (.one (dI 8)))], [(0, .cells 72 [dN, .d (.v (.map none))])], [], 4, 88, []⟩ : St)) (fun (y3 : Unit) => (⟨[(2, .v (.one (.ptr 0 0))), (3, .v (.one (dI 9)))], [(0, .cells 72 [dN, .d (.v (.map none))])], [], 6, 88, []⟩ : St))))) (.inr q_)).tk, (((Sum.elim (fun (y1 : (List (List Int)) × (GMap Bs Int)) => (⟨[(2, .v (.one (.ptr 0 0))), (3, .v (.one (dI 0)))], [(0, .cells 72 [dA 3 y1.1, .mp 1]), (1, .mp (gmE y1.2.1) y1.2.2)], [(3, some ⟨54, 1, (Enc.encL y1.1).length, []⟩)], 4, 88, []⟩ : St)) (Sum.elim (fun (y2 : Unit) => (⟨[(2, .v (.one (.ptr 0 0))), (3, .v (.one (dI 8)))], [(0, .cells 72 [dN, .d (.v (.map none))])], [], 4, 88, []⟩ : St)) (fun (y3 : Unit) => (⟨[(2, .v (.one (.ptr 0 0))), (3, .v (.one (dI 9)))], [(0, .cells 72 [dN, .d (.v (.map none))])], [], 6, 88, []⟩ : St))))) (.inr q_)).nx⟩) hc4 h0 (fun y2 hc4 h0 => ?_) (fun y3 hc4 h0 => ?_))
  ·
   replace hc4 : CallM Try.prog 34 [.one (dS a0)] ⟨[], [], 0⟩ (resOf [.agg [dA 3 y1.1, .mp 1], .one (dI 0)]) ⟨[(0, .cells 72 [dA 3 y1.1, .mp 1]), (1, .mp (gmE y1.2.1) y1.2.2)], [(3, some ⟨54, 1, (Enc.encL y1.1).length, []⟩)], 4⟩ := hc4
   refine XL.put rfl rfl (lb rfl) (OpOK.callW rfl rfl rfl hc4 rfl hZ kZ) <| rM rfl rfl rfl <| rR rfl rfl rfl (RO.extract rfl rfl) <| rR rfl rfl rfl (RO.extract rfl rfl) <| XL.put rfl rfl (lb rfl) (OpOK.alloc z_72 rfl) <| XL.eff rfl rfl (OpOK.store ag_72 rfl rfl rfl rfl (lb rfl) rfl) <| rA rfl rfl rfl <| XL.nil <| XQ.seq <| XC.seq <| XC.seq <| XC.region <| rM rfl rfl rfl <| rR rfl rfl rfl (RO.binInt rfl rfl rfl) ?_
   refine XL.nil <| XQ.seq ?_
   refine XC.cond rfl (fun h => nomatch h) (fun _ => ?_)
   refine XC.skip <| XQ.seq <| XC.seq <| XC.region <| rA rfl rfl rfl <| XL.nil <| XQ.seq <| XC.seq <| XC.region <| rM rfl rfl rfl <| rR rfl rfl rfl (RO.lenE (α := Dcl) sl_22 rfl (.d _)) ?_
   refine guardK h0 (fun g30 h0 => ?_)
   refine XL.put rfl rfl (lb rfl) (OpOK.makeO (α := Bool) (z := false) sl_75 z_4 rfl rfl el_4 rfl rfl g30 rfl (by repeat (first | exact CLs.nil | refine CLs.cons (by first | exact .refl _ | exact .sub (.app _ _ _) | exact .sub (.nil _)) ?_))) ?_
   refine XL.put rfl rfl (lb rfl) (OpOK.alloc z_75 rfl) <| XL.eff rfl rfl (OpOK.store ag_75 rfl rfl rfl rfl (lb rfl) rfl) <| XL.nil <| XQ.seq <| XC.seq <| XC.block ?_
   refine XC.joinX 0 (fun (o31 : (List Int) × (List Bool)) => ⟨[(6, .v (.one (dA 7 o31.1)))], [(0, .cells 72 [dA 3 y1.1, .mp 1]), (1, .mp (gmE y1.2.1) y1.2.2), (4, .cells 72 [dA 3 y1.1, .mp 1]), (5, .cells 4 (flatE o31.2)), (6, .cells 75 [.osl 5 0 ((a0.length : Int).toNat) ((a0.length : Int).toNat)])], [(3, some ⟨54, 1, (Enc.encL y1.1).length, []⟩), (7, some ⟨3, 1, (Enc.encL o31.1).length, []⟩)], 8, 58, []⟩) (fun (o31 : (List Int) × (List Bool)) => (some (o31.1, 0)) = some r) ?_ ?_
   ·
    refine XC.adoptT (t := 6) 3 1 rfl ?_
    refine bindK h0 (fun o32 hl1 h0 => ?_)
    refine XC.loopM (m22_l5 a0 y1) (fun s1 => ⟨[(0, .v (.one (dS a0))), (4, .v (.one (.ptr 4 0))), (6, .v (.one (dA 7 s1.1))), (7, .v (.one (.ptr 6 0)))], [(0, .cells 72 [dA 3 y1.1, .mp 1]), (1, .mp (gmE y1.2.1) y1.2.2), (4, .cells 72 [dA 3 y1.1, .mp 1]), (5, .cells 4 (flatE s1.2)), (6, .cells 75 [.osl 5 0 ((a0.length : Int).toNat) ((a0.length : Int).toNat)])], [(3, some ⟨54, 1, (Enc.encL y1.1).length, []⟩), (7, some ⟨3, 1, (Enc.encL s1.1).length, []⟩)], 8, 58, []⟩) (([] : List Int), (List.replicate (a0.length : Int).toNat false)) o32 (stle (tR rfl (tR rfl (tR rfl (tR rfl tZ)))) (hR rfl (hR rfl (hR rfl (hR rfl (hR rfl hZ))))) (kR rfl (kR rfl kZ)) rfl (Nat.zero_le _) rfl rfl rfl (bB rfl rfl (bG rfl (bB rfl rfl (bF rfl (bB rfl rfl bZ))))) rfl rfl) hl1 (fun s1 n1 oo1 h1 ho1 => ?_)
    unfold m22_l5 at h1
    refine XC.seq <| XC.seq <| XC.region <| rM rfl rfl rfl <| rR rfl rfl rfl (RO.lenE (α := Int) sl_54 rfl (.app _ _)) <| rM rfl rfl rfl <| rR rfl rfl rfl (RO.lenE (α := Dcl) sl_22 rfl (.d _)) <| rR rfl rfl rfl (RO.binInt rfl rfl rfl) <| XL.nil <| XQ.seq ?_
    refine XC.cond (b := (decide ((s1.1.length : Int) < (a0.length : Int)))) rfl (fun c33 => ?_) (fun c33 => ?_)
    ·
     replace h1 := condT c33 h1
     refine XC.skip <| XQ.seq <| XC.block <| XC.seq <| XC.region <| rA rfl rfl rfl <| XL.nil <| XQ.seq <| XC.seq <| XC.seq <| XC.region <| rR rfl rfl rfl (RO.fieldOwn fo_72_0 rfl) <| rR rfl rfl rfl (RO.loadOwn ag_57 rfl rfl rfl) <| rR rfl rfl rfl (RO.lenE (α := List Int) sl_57 rfl (.app _ _)) ?_
     refine rM rfl rfl rfl <| XL.nil <| XQ.seq <| XC.block ?_
     refine XC.joinX 2 (fun (o34 : Int) => ⟨[(0, .v (.one (dS a0))), (4, .v (.one (.ptr 4 0))), (6, .v (.one (dA 7 s1.1))), (7, .v (.one (.ptr 6 0))), (8, .v (.one (dI o34)))], [(0, .cells 72 [dA 3 y1.1, .mp 1]), (1, .mp (gmE y1.2.1) y1.2.2), (4, .cells 72 [dA 3 y1.1, .mp 1]), (5, .cells 4 (flatE s1.2)), (6, .cells 75 [.osl 5 0 ((a0.length : Int).toNat) ((a0.length : Int).toNat)])], [(3, some ⟨54, 1, (Enc.encL y1.1).length, []⟩), (7, some ⟨3, 1, (Enc.encL s1.1).length, []⟩)], 8, 58, []⟩) (fun (o34 : Int) => (cond (decide (o34 < 0))
         (some (.done (.inr (([] : List Int), 22))))
         (Option.bind (idx s1.2 o34) fun (x36 : Bool) =>
       guardO (Nat.beq s1.2.length ((a0.length : Int).toNat))
       (guardO (Nat.ble (s1.1.length + ([o34]).length) 1000000000)
       (some (.next ((s1.1 ++ ([o34])), (s1.2.set o34.toNat true))))))) = some oo1) ?_ ?_
     ·
      refine bindK h1 (fun o35 hl2 h1 => ?_)
      refine XC.loopM (m22_l4 y1 s1 a0) (fun s2 => ⟨[(0, .v (.one (dS a0))), (4, .v (.one (.ptr 4 0))), (6, .v (.one (dA 7 s1.1))), (7, .v (.one (.ptr 6 0))), (8, .v (.one (dI (-1)))), (28, .v (.one (dA 3 y1.1))), (29, .v (.one (dI (y1.1.length : Int)))), (30, .v (.one (dI s2)))], [(0, .cells 72 [dA 3 y1.1, .mp 1]), (1, .mp (gmE y1.2.1) y1.2.2), (4, .cells 72 [dA 3 y1.1, .mp 1]), (5, .cells 4 (flatE s1.2)), (6, .cells 75 [.osl 5 0 ((a0.length : Int).toNat) ((a0.length : Int).toNat)])], [(3, some ⟨54, 1, (Enc.encL y1.1).length, []⟩), (7, some ⟨3, 1, (Enc.encL s1.1).length, []⟩)], 8, 58, []⟩) 0 o35 (stle (tR rfl (tR rfl (tR rfl (tR rfl (tR rfl (tR rfl (tR rfl (tR rfl tZ)))))))) (hR rfl (hR rfl (hR rfl (hR rfl (hR rfl hZ))))) (kR rfl (kR rfl kZ)) rfl (Nat.zero_le _) rfl rfl rfl (bB rfl rfl (bG rfl (bB rfl rfl (bF rfl (bB rfl rfl bZ))))) rfl rfl) hl2 (fun s2 n2 oo2 h2 ho2 => ?_)
      unfold m22_l4 at h2
      refine XC.seq <| XC.region <| rR rfl rfl rfl (RO.binInt rfl rfl rfl) <| XL.nil <| XQ.seq <| XC.seq ?_
      refine XC.cond (b := (decide (s2 < (y1.1.length : Int)))) rfl (fun c36 => ?_) (fun c36 => ?_)
      ·
       replace h2 := condT c36 h2
       refine XC.skip <| XQ.seq <| XC.seq <| XC.block <| XC.seq <| XC.region <| rM rfl rfl rfl ?_
       refine bindK h2 (fun x37 hx37 h2 => ?_)
       refine rR rfl rfl rfl (RO.indexE (α := List Int) sl_57 rfl (.app _ _) rfl hx37) <| rR rfl rfl rfl (RO.loadPel ag_54 rfl rfl) <| rA rfl rfl rfl <| rA rfl rfl rfl <| XL.nil <| XQ.seq <| XC.seq ?_
       refine XC.joinR (fun (v38 : Bool) => ⟨[(0, .v (.one (dS a0))), (4, .v (.one (.ptr 4 0))), (6, .v (.one (dA 7 s1.1))), (7, .v (.one (.ptr 6 0))), (8, .v (.one (dI (-1)))), (9, .v (.one (dI s2))), (28, .v (.one (dA 3 y1.1))), (29, .v (.one (dI (y1.1.length : Int)))), (30, .v (.one (dI s2))), (45, .v (.one (dB v38)))], [(0, .cells 72 [dA 3 y1.1, .mp 1]), (1, .mp (gmE y1.2.1) y1.2.2), (4, .cells 72 [dA 3 y1.1, .mp 1]), (5, .cells 4 (flatE s1.2)), (6, .cells 75 [.osl 5 0 ((a0.length : Int).toNat) ((a0.length : Int).toNat)])], [(3, some ⟨54, 1, (Enc.encL y1.1).length, []⟩), (7, some ⟨3, 1, (Enc.encL s1.1).length, []⟩)], 8, 58, []⟩) (fun (v38 : Bool) => (cond v38
           (some (.done s2))
           (some (.next (w64 (s2 + 1))))) = some oo2) ?_ ?_
       ·
        refine bindK h2 (fun w3_ h3 h2 => ?_)
        refine XC.region <| rR rfl rfl rfl (RO.loadOwn ag_75 rfl rfl rfl) <| rM rfl rfl rfl ?_
        refine bindK h3 (fun x39 hx39 h3 => ?_)
        refine guardK h3 (fun g40 h3 => ?_)
        refine rR rfl rfl rfl (RO.indexO (α := Bool) sl_75 rfl rfl hx39 g40) <| rR rfl rfl rfl (RO.loadOF (α := Bool) (m := s2) (f := 0) ag_4 rfl rfl hx39 rfl) <| rR rfl rfl rfl (RO.not rfl) <| rM rfl rfl rfl ?_
        refine XL.case (d := 40) (c := (!x39)) rfl (fun c41 => ?_) (fun c41 => ?_)
        ·
         replace h3 := condT c41 h3
         refine rM rfl rfl rfl <| rR rfl rfl rfl (RO.makeFunc1 rfl) ?_
         refine bindK h3 (fun x42 hx42 h3 => ?_)
         refine XL.put rfl rfl (lb rfl) (OpOK.callG (hp1' := [(6, .cells 75 [.osl 5 0 ((a0.length : Int).toNat) ((a0.length : Int).toNat)]), (5, .cells 4 (flatE s1.2))]) (tk1' := []) (hpF := [(0, .cells 72 [dA 3 y1.1, .mp 1]), (1, .mp (gmE y1.2.1) y1.2.2), (4, .cells 72 [dA 3 y1.1, .mp 1])]) (tkF := [(3, some ⟨54, 1, (Enc.encL y1.1).length, []⟩), (7, some ⟨3, 1, (Enc.encL s1.1).length, []⟩)]) (res2 := resOf [.one (dB x42)]) (nx2 := 8) [6, 5] rfl rfl (m43f5_ok x37 ((a0.length : Int).toNat) s1.2 x42 hx42) rfl rfl (qB rfl rfl (qF rfl qZ)) rfl rfl (gR rfl (gF rfl gZ)) jZ (hR rfl (hR rfl (hR rfl hZ))) (kR rfl (kR rfl kZ)) rfl rfl rfl rfl rfl (bB rfl rfl (bF rfl bZ)) rfl rfl rfl rfl) <| rR rfl rfl rfl (RO.not rfl) <| rR rfl rfl rfl (RO.pickT rfl rfl) <| XL.nil ?_
         have e_ := Option.some.inj h3
         subst e_
         exact XQ.joinR (!x42) (stle (tR rfl (tR rfl (tR rfl (tR rfl (tR rfl (tR rfl (tR rfl (tR rfl (tR rfl (tR rfl tZ)))))))))) (hR rfl (hR rfl (hR rfl (hR rfl (hR rfl hZ))))) (kR rfl (kR rfl kZ)) rfl (Nat.zero_le _) rfl rfl rfl (bB rfl rfl (bG rfl (bB rfl rfl (bF rfl (bB rfl rfl bZ))))) rfl rfl) h2
        ·
         replace h3 := condF c41 h3
         refine XL.no rfl rfl <| XL.no rfl rfl <| XL.no rfl rfl <| XL.no rfl rfl <| rR rfl rfl rfl (RO.pickF rfl rfl) <| XL.nil ?_
         have e_ := Option.some.inj h3
         subst e_
         exact XQ.joinR false (stle (tR rfl (tR rfl (tR rfl (tR rfl (tR rfl (tR rfl (tR rfl (tR rfl (tR rfl (tR rfl tZ)))))))))) (hR rfl (hR rfl (hR rfl (hR rfl (hR rfl hZ))))) (kR rfl (kR rfl kZ)) rfl (Nat.zero_le _) rfl rfl rfl (bB rfl rfl (bG rfl (bB rfl rfl (bF rfl (bB rfl rfl bZ))))) rfl rfl) h2
       ·
        intro v38 h2
        refine XQ.seq ?_
        refine XC.cond (b := v38) rfl (fun c43 => ?_) (fun c43 => ?_)
        ·
         replace h2 := condT c43 h2
         refine XC.seq <| XC.region <| rM rfl rfl rfl <| rA rfl rfl rfl <| XL.nil <| XQ.seq <| XC.exit ?_
         refine XQ.blockE (by decide) ?_
         refine XQ.thenE <| XQ.thenE ?_
         have e_ := Option.some.inj h2
         subst e_
         have e_ : _ = _ := ho2
         subst e_
         exact XQ.joinX s2 (stle (tR rfl (tR rfl (tR rfl (tR rfl (tR rfl tZ))))) (hR rfl (hR rfl (hR rfl (hR rfl (hR rfl hZ))))) (kR rfl (kR rfl kZ)) rfl (Nat.zero_le _) rfl rfl rfl (bB rfl rfl (bG rfl (bB rfl rfl (bF rfl (bB rfl rfl bZ))))) rfl rfl) h1
        ·
         replace h2 := condF c43 h2
         refine XC.skip <| XQ.inBlock <| XQ.seq <| XC.region <| rR rfl rfl rfl (RO.binInt rfl rfl rfl) <| rM rfl rfl rfl <| XL.nil ?_
         have e_ := Option.some.inj h2
         subst e_
         refine XQ.nextM (w64 (s2 + 1)) (stle (tR rfl (tR rfl (tR rfl (tR rfl (tR rfl (tR rfl (tR rfl (tR rfl tZ)))))))) (hR rfl (hR rfl (hR rfl (hR rfl (hR rfl hZ))))) (kR rfl (kR rfl kZ)) rfl (Nat.zero_le _) rfl rfl rfl (bB rfl rfl (bG rfl (bB rfl rfl (bF rfl (bB rfl rfl bZ))))) rfl rfl) ho2
      ·
       replace h2 := condF c36 h2
       refine XC.exit <| XQ.thenE <| XQ.thenE ?_
       have e_ := Option.some.inj h2
       subst e_
       have e_ : _ = _ := ho2
       subst e_
       exact XQ.joinX (-1) (stle (tR rfl (tR rfl (tR rfl (tR rfl (tR rfl tZ))))) (hR rfl (hR rfl (hR rfl (hR rfl (hR rfl hZ))))) (kR rfl (kR rfl kZ)) rfl (Nat.zero_le _) rfl rfl rfl (bB rfl rfl (bG rfl (bB rfl rfl (bF rfl (bB rfl rfl bZ))))) rfl rfl) h1
     ·
      intro o34 h1
      refine XQ.blockX <| XQ.seq <| XC.seq <| XC.seq <| XC.region <| rM rfl rfl rfl <| rR rfl rfl rfl (RO.binInt rfl rfl rfl) <| XL.nil <| XQ.seq ?_
      refine XC.cond (b := (decide (o34 < 0))) rfl (fun c44 => ?_) (fun c44 => ?_)
      ·
       replace h1 := condT c44 h1
       refine XC.seq <| XC.region <| rA rfl rfl rfl <| rA rfl rfl rfl <| XL.nil <| XQ.seq <| XC.ret ?_
       have e_ := Option.some.inj h1
       subst e_
       have e_ : _ = _ := ho1
       subst e_
       try dsimp only [Sum.elim_inl, Sum.elim_inr] at h0
       have e_ := Option.some.inj h0
       subst e_
       exact XQ.retF (fun _ _ h => h) rfl (RAs.tmp rfl (RAs.tmp rfl .nil)) (.cons (.one (.nil _)) (.cons (.one (.d _)) .nil))
      ·
       replace h1 := condF c44 h1
       refine XC.skip <| XQ.seq <| XC.seq <| XC.region <| rR rfl rfl rfl (RO.loadOwn ag_75 rfl rfl rfl) <| rM rfl rfl rfl ?_
       refine bindK h1 (fun x45 hx45 h1 => ?_)
       refine guardK h1 (fun g46 h1 => ?_)
       refine rR rfl rfl rfl (RO.indexO (α := Bool) sl_75 rfl rfl hx45 g46) <| XL.eff rfl rfl (OpOK.storeOE (α := Bool) (y' := .one (dB true)) (v := true) ag_4 rfl rfl (.one (.d _)) rfl rfl hx45 rfl) <| XL.nil <| XQ.seq <| XC.region <| rM rfl rfl rfl <| rM rfl rfl rfl <| XL.put rfl rfl (lb rfl) (OpOK.lit1E (α := Int) (o34) sl_54 z_3 rfl rfl (lb rfl) (lb rfl) rfl rfl (.cons (.d _) .nil) rfl) ?_
       refine guardK h1 (fun g47 h1 => ?_)
       refine XL.put rfl rfl (lb rfl) (OpOK.appendE (α := Int) sl_54 el_3 rfl rfl rfl rfl rfl (.app _ _) g47) <| rA rfl rfl rfl <| XL.nil <| XQ.inBlock ?_
       have e_ := Option.some.inj h1
       subst e_
       refine XQ.nextM ((s1.1 ++ ([o34])), (s1.2.set o34.toNat true)) (stle (tR rfl (tR rfl (tR rfl (tR rfl tZ)))) (hR rfl (hR rfl (hR rfl (hR rfl (hR rfl hZ))))) (kR rfl (kR rfl kZ)) rfl (Nat.zero_le _) rfl rfl rfl (bB rfl rfl (bG rfl (bB rfl rfl (bF rfl (bB rfl rfl bZ))))) rfl rfl) ho1
    ·
     replace h1 := condF c33 h1
     refine XC.exit <| XQ.thenE <| XQ.thenE ?_
     have e_ := Option.some.inj h1
     subst e_
     have e_ : _ = _ := ho1
     subst e_
     exact XQ.joinX (s1.1, s1.2) (stle (tR rfl tZ) (hR rfl (hR rfl (hR rfl (hR rfl (hR rfl hZ))))) (kR rfl (kR rfl kZ)) rfl (Nat.zero_le _) rfl rfl rfl (bB rfl rfl (bG rfl (bB rfl rfl (bF rfl (bB rfl rfl bZ))))) rfl rfl) h0
   ·
    intro o31 h0
    refine XQ.blockX <| XQ.seq <| XC.seq <| XC.region <| rM rfl rfl rfl <| rA rfl rfl rfl <| rA rfl rfl rfl <| XL.nil <| XQ.seq <| XC.ret ?_
    have e_ := Option.some.inj h0
    subst e_
    exact XQ.retF (fun _ _ h => h) rfl (RAs.tmp rfl (RAs.tmp rfl .nil)) (.cons (.one (.app _ _ _)) (.cons (.one (.d _)) .nil))
  ·
   replace hc4 : CallM Try.prog 34 [.one (dS a0)] ⟨[], [], 0⟩ (resOf [.agg [dN, .d (.v (.map none))], .one (dI 8)]) ⟨[(0, .cells 72 [dN, .d (.v (.map none))])], [], 4⟩ := hc4
   refine XL.put rfl rfl (lb rfl) (OpOK.callW rfl rfl rfl hc4 rfl hZ kZ) <| rM rfl rfl rfl <| rR rfl rfl rfl (RO.extract rfl rfl) <| rR rfl rfl rfl (RO.extract rfl rfl) <| XL.put rfl rfl (lb rfl) (OpOK.alloc z_72 rfl) <| XL.eff rfl rfl (OpOK.store ag_72 rfl rfl rfl rfl (lb rfl) rfl) <| rA rfl rfl rfl <| XL.nil <| XQ.seq <| XC.seq <| XC.seq <| XC.region <| rM rfl rfl rfl <| rR rfl rfl rfl (RO.binInt rfl rfl rfl) ?_
   refine XL.nil <| XQ.seq ?_
   refine XC.cond rfl (fun _ => ?_) (fun h => nomatch h)
   refine XC.seq <| XC.region <| rM rfl rfl rfl <| rA rfl rfl rfl <| rA rfl rfl rfl <| XL.nil <| XQ.seq <| XC.ret ?_
   have e_ := Option.some.inj h0
   subst e_
   exact XQ.retF (fun _ _ h => h) rfl (RAs.tmp rfl (RAs.tmp rfl .nil)) (.cons (.one (.nil _)) (.cons (.one (.d _)) .nil))
  ·
   replace hc4 : CallM Try.prog 34 [.one (dS a0)] ⟨[], [], 0⟩ (resOf [.agg [dN, .d (.v (.map none))], .one (dI 9)]) ⟨[(0, .cells 72 [dN, .d (.v (.map none))])], [], 6⟩ := hc4
   refine XL.put rfl rfl (lb rfl) (OpOK.callW rfl rfl rfl hc4 rfl hZ kZ) <| rM rfl rfl rfl <| rR rfl rfl rfl (RO.extract rfl rfl) <| rR rfl rfl rfl (RO.extract rfl rfl) <| XL.put rfl rfl (lb rfl) (OpOK.alloc z_72 rfl) <| XL.eff rfl rfl (OpOK.store ag_72 rfl rfl rfl rfl (lb rfl) rfl) <| rA rfl rfl rfl <| XL.nil <| XQ.seq <| XC.seq <| XC.seq <| XC.region <| rM rfl rfl rfl <| rR rfl rfl rfl (RO.binInt rfl rfl rfl) ?_
   refine XL.nil <| XQ.seq ?_
   refine XC.cond rfl (fun _ => ?_) (fun h => nomatch h)
   refine XC.seq <| XC.region <| rM rfl rfl rfl <| rA rfl rfl rfl <| rA rfl rfl rfl <| XL.nil <| XQ.seq <| XC.ret ?_
   have e_ := Option.some.inj h0
   subst e_
   exact XQ.retF (fun _ _ h => h) rfl (RAs.tmp rfl (RAs.tmp rfl .nil)) (.cons (.one (.nil _)) (.cons (.one (.d _)) .nil))
end Go.Proofs.Ytijcchddnnnmdaa
namespace Go.Proofs.Ytijcchddnnnmdaa
open Go.RowKit Go.Shelf
set_option linter.unusedSimpArgs false
set_option linter.unusedVariables false
theorem en_26 : Enters Try.prog 26 := enters_of Try.func26 (by kernel_rfl) rfl
def m26_l0 (x1 : (List (List Int)) × Int) (s2 : Int × Int) (s1 : (List Int)) (s3 : Bool × Int) : Option (LO (Bool × Int) Bool) :=
  Option.bind (idx x1.1 s2.2) fun (x10 : List Int) =>
  cond (decide (s3.2 < (x10.length : Int)))
    (Option.bind (cond s3.1
    (Option.bind (idx x1.1 s2.2) fun (x14 : List Int) =>
  Option.bind (idx x14 s3.2) fun (x15 : Int) =>
  Option.bind (m49 s1 x15) fun (x16 : Bool) =>
  some x16)
    (some false)) (fun (v12 : Bool) => some (.next (v12, (w64 (s3.2 + 1))))))
    (some (.done s3.1))
def m26_l1 (a0 : List Dcl) (s1 : (List Int)) (x1 : (List (List Int)) × Int) (s2 : Int × Int) : Option (LO (Int × Int) Int) :=
  Option.bind (cond (decide (s2.2 < (a0.length : Int)))
    (some (decide (s2.1 < 0)))
    (some false)) (fun (v6 : Bool) => cond v6
    (Option.bind (m49 s1 s2.2) fun (x8 : Bool) =>
  Option.bind (loopN (m26_l0 x1 s2 s1) FUEL ((!x8), 0)) (fun (o9 : Bool) => cond o9
    (some (.next (s2.2, (w64 (s2.2 + 1)))))
    (some (.next (s2.1, (w64 (s2.2 + 1)))))))
    (some (.done s2.1)))
def m26_l2 (a0 : List Dcl) (x1 : (List (List Int)) × Int) (s1 : (List Int)) : Option (LO ((List Int)) (((List Int)) ⊕ ((List Int) × Int))) :=
  cond (decide ((s1.length : Int) < (a0.length : Int)))
    (Option.bind (loopN (m26_l1 a0 s1 x1) FUEL ((-1), 0)) (fun (o5 : Int) => cond (decide (o5 < 0))
    (some (.done (.inr (([] : List Int), 22))))
    (guardO (Nat.ble (s1.length + ([o5]).length) 1000000000)
  (some (.next (s1 ++ ([o5])))))))
    (some (.done (.inl s1)))
def m26 (a0 : List Dcl) : Option ((List Int) × Int) :=
  Option.bind (m25 a0) fun (x1 : (List (List Int)) × Int) =>
  cond (x1.2 != 0)
    (some (([] : List Int), x1.2))
    (Option.bind (loopN (m26_l2 a0 x1) FUEL ([] : List Int)) (Sum.elim (fun (o3 : (List Int)) => some (o3, 0)) (fun o => some o)))
set_option maxRecDepth 100000 in
set_option maxHeartbeats 8000000 in
theorem m26_ok (a0 : List Dcl) (r : (List Int) × Int) (h0 : m26 a0 = some r) : Fun Try.prog 26 [.one (dS a0)] (resOf [.one (dS r.1), .one (dI r.2)]) := by
  unfold m26 at h0
  refine Fun.of_bodyM 9 68 Try.func26 rfl en_26 rfl (lb rfl) (fun S w => ?_)
  simp only [entry]
  refine XC.seq <| XC.region <| rA rfl rfl rfl <| rA rfl rfl rfl <| XL.nil <| XQ.seq <| XC.seq <| XC.region <| rM rfl rfl rfl ?_
  refine bindK h0 (fun x1 hx1 h0 => ?_)
  refine XL.put rfl rfl (lb rfl) (OpOK.callFun (m25_ok a0 x1 hx1) rfl (.cons (.one (.d _)) .nil)) <| rM rfl rfl rfl <| rR rfl rfl rfl (RO.extract rfl rfl) <| rR rfl rfl rfl (RO.extract rfl rfl) <| rA rfl rfl rfl <| rA rfl rfl rfl <| XL.nil <| XQ.seq <| XC.seq <| XC.seq <| XC.region <| rM rfl rfl rfl <| rR rfl rfl rfl (RO.binInt rfl rfl rfl) <| XL.nil ?_
  refine XQ.seq ?_
  refine XC.cond (b := (x1.2 != 0)) rfl (fun c2 => ?_) (fun c2 => ?_)
  ·
   replace h0 := condT c2 h0
   refine XC.seq <| XC.region <| rM rfl rfl rfl <| rA rfl rfl rfl <| rA rfl rfl rfl <| XL.nil <| XQ.seq <| XC.ret ?_
   have e_ := Option.some.inj h0
   subst e_
   exact XQ.retF (fun _ _ h => h) rfl (RAs.tmp rfl (RAs.tmp rfl .nil)) (.cons (.one (.nil _)) (.cons (.one (.d _)) .nil))
  ·
   replace h0 := condF c2 h0
   refine XC.skip <| XQ.seq <| XC.seq <| XC.region <| rA rfl rfl rfl <| XL.nil <| XQ.seq <| XC.seq <| XC.block ?_
   refine XC.joinX 0 (fun (o3 : (List Int)) => ⟨[(6, .v (.one (dA 0 o3)))], [], [(0, some ⟨3, 1, (Enc.encL o3).length, []⟩)], 1, 68, []⟩) (fun (o3 : (List Int)) => (some (o3, 0)) = some r) ?_ ?_
   ·
    refine XC.adoptT (t := 6) 3 1 rfl ?_
    refine bindK h0 (fun o4 hl1 h0 => ?_)
    refine XC.loopM (m26_l2 a0 x1) (fun s1 => ⟨[(0, .v (.one (dS a0))), (4, .v (.one (dS x1.1))), (6, .v (.one (dA 0 s1)))], [], [(0, some ⟨3, 1, (Enc.encL s1).length, []⟩)], 1, 68, []⟩) ([] : List Int) o4 (stle (tR rfl (tR rfl (tR rfl tZ))) hZ (kR rfl kZ) rfl (Nat.zero_le _) rfl rfl rfl bZ rfl rfl) hl1 (fun s1 n1 oo1 h1 ho1 => ?_)
    unfold m26_l2 at h1
    refine XC.seq <| XC.seq <| XC.region <| rM rfl rfl rfl <| rR rfl rfl rfl (RO.lenE (α := Int) sl_54 rfl (.app _ _)) <| rM rfl rfl rfl <| rR rfl rfl rfl (RO.lenE (α := Dcl) sl_22 rfl (.d _)) <| rR rfl rfl rfl (RO.binInt rfl rfl rfl) <| XL.nil <| XQ.seq ?_
    refine XC.cond (b := (decide ((s1.length : Int) < (a0.length : Int)))) rfl (fun c5 => ?_) (fun c5 => ?_)
    ·
     replace h1 := condT c5 h1
     refine XC.skip <| XQ.seq <| XC.block <| XC.seq <| XC.region <| rA rfl rfl rfl <| XL.nil <| XQ.seq <| XC.seq <| XC.seq <| XC.region <| rA rfl rfl rfl <| XL.nil <| XQ.seq ?_
     refine XC.block ?_
     refine XC.joinX 2 (fun (o6 : Int) => ⟨[(0, .v (.one (dS a0))), (4, .v (.one (dS x1.1))), (6, .v (.one (dA 0 s1))), (7, .v (.one (dI o6)))], [], [(0, some ⟨3, 1, (Enc.encL s1).length, []⟩)], 1, 68, []⟩) (fun (o6 : Int) => (cond (decide (o6 < 0))
         (some (.done (.inr (([] : List Int), 22))))
         (guardO (Nat.ble (s1.length + ([o6]).length) 1000000000)
       (some (.next (s1 ++ ([o6])))))) = some oo1) ?_ ?_
     ·
      refine bindK h1 (fun o7 hl2 h1 => ?_)
      refine XC.loopM (m26_l1 a0 s1 x1) (fun s2 => ⟨[(0, .v (.one (dS a0))), (4, .v (.one (dS x1.1))), (6, .v (.one (dA 0 s1))), (7, .v (.one (dI s2.1))), (8, .v (.one (dI s2.2)))], [], [(0, some ⟨3, 1, (Enc.encL s1).length, []⟩)], 1, 68, []⟩) ((-1), 0) o7 (stle (tR rfl (tR rfl (tR rfl (tR rfl (tR rfl tZ))))) hZ (kR rfl kZ) rfl (Nat.zero_le _) rfl rfl rfl bZ rfl rfl) hl2 (fun s2 n2 oo2 h2 ho2 => ?_)
      unfold m26_l1 at h2
      refine XC.seq <| XC.seq ?_
      refine XC.joinR (fun (v8 : Bool) => ⟨[(0, .v (.one (dS a0))), (4, .v (.one (dS x1.1))), (6, .v (.one (dA 0 s1))), (7, .v (.one (dI s2.1))), (8, .v (.one (dI s2.2))), (31, .v (.one (dB v8)))], [], [(0, some ⟨3, 1, (Enc.encL s1).length, []⟩)], 1, 68, []⟩) (fun (v8 : Bool) => (cond v8
          (Option.bind (m49 s1 s2.2) fun (x10 : Bool) =>
        Option.bind (loopN (m26_l0 x1 s2 s1) FUEL ((!x10), 0)) (fun (o11 : Bool) => cond o11
          (some (.next (s2.2, (w64 (s2.2 + 1)))))
          (some (.next (s2.1, (w64 (s2.2 + 1)))))))
          (some (.done s2.1))) = some oo2) ?_ ?_
      ·
       refine bindK h2 (fun w3_ h3 h2 => ?_)
       refine XC.region <| rM rfl rfl rfl <| rM rfl rfl rfl <| rR rfl rfl rfl (RO.lenE (α := Dcl) sl_22 rfl (.d _)) <| rR rfl rfl rfl (RO.binInt rfl rfl rfl) <| rM rfl rfl rfl ?_
       refine XL.case (d := 28) (c := (decide (s2.2 < (a0.length : Int)))) rfl (fun c9 => ?_) (fun c9 => ?_)
       ·
        replace h3 := condT c9 h3
        refine rM rfl rfl rfl <| rR rfl rfl rfl (RO.binInt rfl rfl rfl) <| rR rfl rfl rfl (RO.pickT rfl rfl) <| XL.nil ?_
        have e_ := Option.some.inj h3
        subst e_
        exact XQ.joinR (decide (s2.1 < 0)) (stle (tR rfl (tR rfl (tR rfl (tR rfl (tR rfl (tR rfl tZ)))))) hZ (kR rfl kZ) rfl (Nat.zero_le _) rfl rfl rfl bZ rfl rfl) h2
       ·
        replace h3 := condF c9 h3
        refine XL.no rfl rfl <| XL.no rfl rfl <| rR rfl rfl rfl (RO.pickF rfl rfl) <| XL.nil ?_
        have e_ := Option.some.inj h3
        subst e_
        exact XQ.joinR false (stle (tR rfl (tR rfl (tR rfl (tR rfl (tR rfl (tR rfl tZ)))))) hZ (kR rfl kZ) rfl (Nat.zero_le _) rfl rfl rfl bZ rfl rfl) h2
      ·
       intro v8 h2
       refine XQ.seq ?_
       refine XC.cond (b := v8) rfl (fun c10 => ?_) (fun c10 => ?_)
       ·
        replace h2 := condT c10 h2
        refine XC.skip <| XQ.seq <| XC.seq <| XC.block <| XC.seq <| XC.region <| rM rfl rfl rfl <| rM rfl rfl rfl ?_
        refine bindK h2 (fun x11 hx11 h2 => ?_)
        refine XL.put rfl rfl (lb rfl) (OpOK.callFun (m49_ok s1 s2.2 x11 hx11) rfl (.cons (.one (.app _ _ _)) (.cons (.one (.d _)) .nil))) <| rR rfl rfl rfl (RO.not rfl) <| rA rfl rfl rfl <| XL.nil <| XQ.seq <| XC.seq <| XC.seq <| XC.region <| rA rfl rfl rfl <| XL.nil <| XQ.seq <| XC.block ?_
        refine XC.joinX 4 (fun (o12 : Bool) => ⟨[(0, .v (.one (dS a0))), (4, .v (.one (dS x1.1))), (6, .v (.one (dA 0 s1))), (7, .v (.one (dI s2.1))), (8, .v (.one (dI s2.2))), (9, .v (.one (dB o12)))], [], [(0, some ⟨3, 1, (Enc.encL s1).length, []⟩)], 1, 68, []⟩) (fun (o12 : Bool) => (cond o12
            (some (.next (s2.2, (w64 (s2.2 + 1)))))
            (some (.next (s2.1, (w64 (s2.2 + 1)))))) = some oo2) ?_ ?_
        ·
         refine bindK h2 (fun o13 hl3 h2 => ?_)
         refine XC.loopM (m26_l0 x1 s2 s1) (fun s3 => ⟨[(0, .v (.one (dS a0))), (4, .v (.one (dS x1.1))), (6, .v (.one (dA 0 s1))), (7, .v (.one (dI s2.1))), (8, .v (.one (dI s2.2))), (9, .v (.one (dB s3.1))), (10, .v (.one (dI s3.2)))], [], [(0, some ⟨3, 1, (Enc.encL s1).length, []⟩)], 1, 68, []⟩) ((!x11), 0) o13 (stle (tR rfl (tR rfl (tR rfl (tR rfl (tR rfl (tR rfl (tR rfl tZ))))))) hZ (kR rfl kZ) rfl (Nat.zero_le _) rfl rfl rfl bZ rfl rfl) hl3 (fun s3 n3 oo3 h3 ho3 => ?_)
         unfold m26_l0 at h3
         refine XC.seq <| XC.seq <| XC.region <| rM rfl rfl rfl <| rM rfl rfl rfl <| rM rfl rfl rfl ?_
         refine bindK h3 (fun x14 hx14 h3 => ?_)
         refine rR rfl rfl rfl (RO.indexE (α := List Int) sl_57 rfl (.d _) rfl hx14) <| rR rfl rfl rfl (RO.loadPel ag_54 rfl rfl) <| rR rfl rfl rfl (RO.lenE (α := Int) sl_54 rfl (.d _)) <| rR rfl rfl rfl (RO.binInt rfl rfl rfl) <| XL.nil <| XQ.seq ?_
         refine XC.cond (b := (decide (s3.2 < (x14.length : Int)))) rfl (fun c15 => ?_) (fun c15 => ?_)
         ·
          replace h3 := condT c15 h3
          refine XC.skip <| XQ.seq <| XC.seq <| XC.block ?_
          refine XC.joinR (fun (v16 : Bool) => ⟨[(0, .v (.one (dS a0))), (4, .v (.one (dS x1.1))), (6, .v (.one (dA 0 s1))), (7, .v (.one (dI s2.1))), (8, .v (.one (dI s2.2))), (9, .v (.one (dB v16))), (10, .v (.one (dI s3.2)))], [], [(0, some ⟨3, 1, (Enc.encL s1).length, []⟩)], 1, 68, []⟩) (fun (v16 : Bool) => (some (.next (v16, (w64 (s3.2 + 1))))) = some oo3) ?_ ?_
          ·
           refine bindK h3 (fun w4_ h4 h3 => ?_)
           refine XC.region <| rM rfl rfl rfl <| rM rfl rfl rfl ?_
           refine XL.case (d := 48) (c := s3.1) rfl (fun c17 => ?_) (fun c17 => ?_)
           ·
            replace h4 := condT c17 h4
            refine rM rfl rfl rfl <| rM rfl rfl rfl <| rM rfl rfl rfl ?_
            refine bindK h4 (fun x18 hx18 h4 => ?_)
            refine rR rfl rfl rfl (RO.indexE (α := List Int) sl_57 rfl (.d _) rfl hx18) <| rR rfl rfl rfl (RO.loadPel ag_54 rfl rfl) <| rM rfl rfl rfl ?_
            refine bindK h4 (fun x19 hx19 h4 => ?_)
            refine rR rfl rfl rfl (RO.indexE (α := Int) sl_54 rfl (.d _) rfl hx19) <| rR rfl rfl rfl (RO.loadPel ag_3 rfl rfl) ?_
            refine bindK h4 (fun x20 hx20 h4 => ?_)
            refine XL.put rfl rfl (lb rfl) (OpOK.callFun (m49_ok s1 x19 x20 hx20) rfl (.cons (.one (.app _ _ _)) (.cons (.one (.d _)) .nil))) <| rR rfl rfl rfl (RO.pickT rfl rfl) <| rA rfl rfl rfl <| XL.nil ?_
            have e_ := Option.some.inj h4
            subst e_
            exact XQ.joinR x20 (stle (tR rfl (tR rfl (tR rfl (tR rfl (tR rfl (tR rfl (tR rfl tZ))))))) hZ (kR rfl kZ) rfl (Nat.zero_le _) rfl rfl rfl bZ rfl rfl) h3
           ·
            replace h4 := condF c17 h4
            refine XL.no rfl rfl <| XL.no rfl rfl <| XL.no rfl rfl <| XL.no rfl rfl <| XL.no rfl rfl <| XL.no rfl rfl <| XL.no rfl rfl <| XL.no rfl rfl <| XL.no rfl rfl <| rR rfl rfl rfl (RO.pickF rfl rfl) <| rA rfl rfl rfl <| XL.nil ?_
            have e_ := Option.some.inj h4
            subst e_
            exact XQ.joinR false (stle (tR rfl (tR rfl (tR rfl (tR rfl (tR rfl (tR rfl (tR rfl tZ))))))) hZ (kR rfl kZ) rfl (Nat.zero_le _) rfl rfl rfl bZ rfl rfl) h3
          ·
           intro v16 h3
           refine XQ.inBlock <| XQ.seq <| XC.region <| rM rfl rfl rfl <| rR rfl rfl rfl (RO.binInt rfl rfl rfl) <| rA rfl rfl rfl <| XL.nil ?_
           have e_ := Option.some.inj h3
           subst e_
           refine XQ.nextM (v16, (w64 (s3.2 + 1))) (stle (tR rfl (tR rfl (tR rfl (tR rfl (tR rfl (tR rfl (tR rfl tZ))))))) hZ (kR rfl kZ) rfl (Nat.zero_le _) rfl rfl rfl bZ rfl rfl) ho3
         ·
          replace h3 := condF c15 h3
          refine XC.exit <| XQ.thenE <| XQ.thenE ?_
          have e_ := Option.some.inj h3
          subst e_
          have e_ : _ = _ := ho3
          subst e_
          exact XQ.joinX s3.1 (stle (tR rfl (tR rfl (tR rfl (tR rfl (tR rfl (tR rfl tZ)))))) hZ (kR rfl kZ) rfl (Nat.zero_le _) rfl rfl rfl bZ rfl rfl) h2
        ·
         intro o12 h2
         refine XQ.blockX <| XQ.seq <| XC.seq <| XC.region <| rM rfl rfl rfl <| XL.nil <| XQ.seq ?_
         refine XC.cond (b := o12) rfl (fun c21 => ?_) (fun c21 => ?_)
         ·
          replace h2 := condT c21 h2
          refine XC.region <| rM rfl rfl rfl <| rA rfl rfl rfl <| XL.nil <| XQ.inBlock <| XQ.seq <| XC.region <| rM rfl rfl rfl <| rR rfl rfl rfl (RO.binInt rfl rfl rfl) <| rA rfl rfl rfl <| XL.nil ?_
          have e_ := Option.some.inj h2
          subst e_
          refine XQ.nextM (s2.2, (w64 (s2.2 + 1))) (stle (tR rfl (tR rfl (tR rfl (tR rfl (tR rfl tZ))))) hZ (kR rfl kZ) rfl (Nat.zero_le _) rfl rfl rfl bZ rfl rfl) ho2
         ·
          replace h2 := condF c21 h2
          refine XC.skip <| XQ.inBlock <| XQ.seq <| XC.region <| rM rfl rfl rfl <| rR rfl rfl rfl (RO.binInt rfl rfl rfl) <| rA rfl rfl rfl <| XL.nil ?_
          have e_ := Option.some.inj h2
          subst e_
          refine XQ.nextM (s2.1, (w64 (s2.2 + 1))) (stle (tR rfl (tR rfl (tR rfl (tR rfl (tR rfl tZ))))) hZ (kR rfl kZ) rfl (Nat.zero_le _) rfl rfl rfl bZ rfl rfl) ho2
       ·
        replace h2 := condF c10 h2
        refine XC.exit <| XQ.thenE <| XQ.thenE ?_
        have e_ := Option.some.inj h2
        subst e_
        have e_ : _ = _ := ho2
        subst e_
        exact XQ.joinX s2.1 (stle (tR rfl (tR rfl (tR rfl (tR rfl tZ)))) hZ (kR rfl kZ) rfl (Nat.zero_le _) rfl rfl rfl bZ rfl rfl) h1
     ·
      intro o6 h1
      refine XQ.blockX <| XQ.seq <| XC.seq <| XC.seq <| XC.region <| rM rfl rfl rfl <| rR rfl rfl rfl (RO.binInt rfl rfl rfl) <| XL.nil <| XQ.seq ?_
      refine XC.cond (b := (decide (o6 < 0))) rfl (fun c22 => ?_) (fun c22 => ?_)
      ·
       replace h1 := condT c22 h1
       refine XC.seq <| XC.region <| rA rfl rfl rfl <| rA rfl rfl rfl <| XL.nil <| XQ.seq <| XC.ret ?_
       have e_ := Option.some.inj h1
       subst e_
       have e_ : _ = _ := ho1
       subst e_
       try dsimp only [Sum.elim_inl, Sum.elim_inr] at h0
       have e_ := Option.some.inj h0
       subst e_
       exact XQ.retF (fun _ _ h => h) rfl (RAs.tmp rfl (RAs.tmp rfl .nil)) (.cons (.one (.nil _)) (.cons (.one (.d _)) .nil))
      ·
       replace h1 := condF c22 h1
       refine XC.skip <| XQ.seq <| XC.region <| rM rfl rfl rfl <| rM rfl rfl rfl <| XL.put rfl rfl (lb rfl) (OpOK.lit1E (α := Int) (o6) sl_54 z_3 rfl rfl (lb rfl) (lb rfl) rfl rfl (.cons (.d _) .nil) rfl) ?_
       refine guardK h1 (fun g23 h1 => ?_)
       refine XL.put rfl rfl (lb rfl) (OpOK.appendE (α := Int) sl_54 el_3 rfl rfl rfl rfl rfl (.app _ _) g23) <| rA rfl rfl rfl <| XL.nil <| XQ.inBlock ?_
       have e_ := Option.some.inj h1
       subst e_
       refine XQ.nextM (s1 ++ ([o6])) (stle (tR rfl (tR rfl (tR rfl tZ))) hZ (kR rfl kZ) rfl (Nat.zero_le _) rfl rfl rfl bZ rfl rfl) ho1
    ·
     replace h1 := condF c5 h1
     refine XC.exit <| XQ.thenE <| XQ.thenE ?_
     have e_ := Option.some.inj h1
     subst e_
     have e_ : _ = _ := ho1
     subst e_
     exact XQ.joinX s1 (stle (tR rfl tZ) hZ (kR rfl kZ) rfl (Nat.zero_le _) rfl rfl rfl bZ rfl rfl) h0
   ·
    intro o3 h0
    refine XQ.blockX <| XQ.seq <| XC.seq <| XC.region <| rM rfl rfl rfl <| rA rfl rfl rfl <| rA rfl rfl rfl <| XL.nil <| XQ.seq <| XC.ret ?_
    have e_ := Option.some.inj h0
    subst e_
    exact XQ.retF (fun _ _ h => h) rfl (RAs.tmp rfl (RAs.tmp rfl .nil)) (.cons (.one (.app _ _ _)) (.cons (.one (.d _)) .nil))
end Go.Proofs.Ytijcchddnnnmdaa
namespace Go.Proofs.Ytijcchddnnnmdaa
open Go.RowKit Go.Lib
set_option linter.unusedSimpArgs false
set_option linter.unusedVariables false
set_option linter.unusedSectionVars false
def Gr (g : List (List Int)) (n : Nat) : Prop := g.length = n ∧ ∀ l ∈ g, l.length ≤ n ∧ ∀ j ∈ l, ∃ k : Nat, k < n ∧ j = (k : Int)
theorem graph_gr {env : List Dcl} (h : closedA env env) : Gr (graphL env) env.length := by
  refine ⟨by unfold graphL; simp, fun l hl => ?_⟩
  unfold graphL at hl
  obtain ⟨d, hd, rfl⟩ := List.mem_map.1 hl
  refine ⟨?_, fun j hj => ?_⟩
  · unfold row
    refine Nat.le_trans (List.length_filter_le _ _) ?_
    simp
  · unfold row at hj
    obtain ⟨k, hk, rfl⟩ := List.mem_map.1 (List.mem_filter.1 hj).1
    exact ⟨k, List.mem_range.1 hk, rfl⟩
def readyL (out : List Int) (i : Nat) (l : List Int) : Bool := decide ((i : Int) ∉ out) && l.all fun j => decide (j ∈ out)
def pickF (out : List Int) : Nat → List (List Int) → Option Nat
  | _, [] => none
  | i, l :: g => if readyL out i l then some i else pickF out (i + 1) g
theorem pickF_app (out : List Int) (b : List (List Int)) : ∀ (a : List (List Int)) (i : Nat), pickF out i (a ++ b) = (pickF out i a).or (pickF out (i + a.length) b)
  | [], i => by simp [pickF]
  | d :: a, i => by
    simp only [List.cons_append, pickF]
    split
    · rfl
    · rw [pickF_app out b a (i + 1), show i + 1 + a.length = i + (d :: a).length by simp only [List.length_cons]; omega]
theorem pickF_some (out : List Int) : ∀ (g : List (List Int)) (i k : Nat), pickF out i g = some k → ∃ q l, k = i + q ∧ g[q]? = some l ∧ readyL out k l = true
  | [], i, k, h => by cases h
  | l :: g, i, k, h => by
    simp only [pickF] at h
    split at h
    · cases h; exact ⟨0, l, rfl, rfl, ‹_›⟩
    · obtain ⟨q, l', h1, h2, h3⟩ := pickF_some out g (i + 1) k h
      exact ⟨q + 1, l', by omega, h2, h3⟩
def orderG (g : List (List Int)) : Nat → List Int → List Int ⊕ Unit
  | 0, out => .inl out
  | k + 1, out => match pickF out 0 g with
    | none => .inr ()
    | some i => orderG g k (out ++ [(i : Int)])
def Done (n : Nat) (out : List Int) (done : List Bool) : Prop := done.length = n ∧ ∀ i : Nat, i < n → done[i]? = some (decide ((i : Int) ∈ out))
theorem Done.idx {n : Nat} {out : List Int} {done : List Bool} (h : Done n out done) {i : Nat} (hi : i < n) : idx done (i : Int) = some (decide ((i : Int) ∈ out)) := h.2 i hi
theorem Done.set {n : Nat} {out : List Int} {done : List Bool} (h : Done n out done) {i : Nat} (hi : i < n) : Done n (out ++ [(i : Int)]) (done.set i true) := by
  refine ⟨by rw [List.length_set]; exact h.1, fun j hj => ?_⟩
  rw [List.getElem?_set]
  by_cases e : i = j
  · subst e
    rw [if_pos rfl, if_pos (by rw [h.1]; exact hj)]; simp
  · rw [if_neg e, h.2 j hj]
    have : (j : Int) ∈ out ++ [(i : Int)] ↔ (j : Int) ∈ out := by
      rw [List.mem_append, List.mem_singleton]
      exact ⟨fun h => h.elim id fun h => absurd (by omega) e, .inl⟩
    simp only [this]
theorem Done.init (n : Nat) : Done n [] (List.replicate n false) := ⟨by simp, fun i hi => by rw [List.getElem?_replicate, if_pos hi]; simp⟩
theorem m43f5_eq {n : Nat} {out : List Int} {done : List Bool} (h : Done n out done) (l : List Int) (hl : l.length ≤ 900000000) (hj : ∀ j ∈ l, ∃ k : Nat, k < n ∧ j = (k : Int)) : m43f5 l n done = some (!(l.all fun j => decide (j ∈ out))) := by
  unfold m43f5 m60f6
  obtain ⟨r, e, hr⟩ := loop_all (step := m60f6_l0 l n done) l (fun k (_ : Unit) => k) (fun a _ => (a.all fun j => decide (j ∈ out)) = true) (fun r => (r = .inl () ∧ (l.all fun j => decide (j ∈ out)) = true) ∨ (∃ k : Nat, r = .inr (k : Int) ∧ (l.all fun j => decide (j ∈ out)) = false)) hl
    (fun a x b _ e hI => by
      obtain ⟨k, hk, rfl⟩ := hj x (by rw [e]; simp)
      by_cases hx : (k : Int) ∈ out
      · refine .inr ⟨(), ?_, by rw [List.all_append, hI]; simp [hx]⟩
        unfold m60f6_l0 m44f7
        rw [e, lt_mid, idx_mid]
        simp only [cond_true, Option.bind_some]
        rw [h.idx hk, Option.bind_some, guard_eq h.1]
        simp [hx]
      · refine .inl ⟨.inr (a.length : Int), ?_, .inr ⟨a.length, rfl, by rw [e, List.all_append]; simp [hx]⟩⟩
        unfold m60f6_l0 m44f7
        rw [e, lt_mid, idx_mid]
        simp only [cond_true, Option.bind_some]
        rw [h.idx hk, Option.bind_some, guard_eq h.1]
        simp [hx])
    (fun _ hI => ⟨.inl (), by unfold m60f6_l0; rw [lt_end]; rfl, .inl ⟨rfl, hI⟩⟩) () rfl
  rw [e]
  rcases hr with ⟨rfl, h2⟩ | ⟨k, rfl, h2⟩
  · rw [h2]; rfl
  · rw [h2]
    show some (decide (0 ≤ (k : Int))) = _
    simp
theorem m22_l4_eq {env : List Dcl} {g : List (List Int)} {M : OM} {out : List Int} {done : List Bool} (hg : Gr g env.length) (hn : env.length ≤ 100000000) (h : Done env.length out done) : loopN (m22_l4 (g, M) (out, done) env) FUEL 0 = some (match pickF out 0 g with
    | some i => (i : Int)
    | none => -1) := by
  obtain ⟨r, e, rfl⟩ := loop_all (step := m22_l4 (g, M) (out, done) env) g (fun k (_ : Unit) => k) (fun a _ => pickF out 0 a = none) (fun r => r = match pickF out 0 g with
      | some i => (i : Int)
      | none => -1) (by rw [hg.1]; omega)
    (fun a x b _ e hI => by
      have hx : x ∈ g := by rw [e]; simp
      obtain ⟨hx1, hx2⟩ := hg.2 x hx
      have hal : a.length < env.length := by rw [← hg.1]; exact mid_lt e
      have hstep : m22_l4 (g, M) (out, done) env (a.length : Int) = cond (readyL out a.length x) (some (.done (a.length : Int))) (some (.next (w64 ((a.length : Int) + 1)))) := by
        unfold m22_l4
        dsimp only
        rw [e, lt_mid, idx_mid]
        simp only [cond_true, Option.bind_some]
        rw [h.idx hal, Option.bind_some, guard_eq (by rw [h.1]; simp)]
        unfold readyL
        by_cases ha : (a.length : Int) ∈ out
        · simp [ha]
        · rw [show (env.length : Int).toNat = env.length by simp, m43f5_eq h x (by omega) hx2]
          simp [ha]
      cases hr : readyL out a.length x with
      | true =>
        rw [hr] at hstep
        refine .inl ⟨_, hstep, ?_⟩
        rw [e, pickF_app, hI, Nat.zero_add]
        simp [pickF, hr]
      | false =>
        rw [hr] at hstep
        refine .inr ⟨(), hstep, ?_⟩
        rw [pickF_app, hI, Nat.zero_add]
        simp [pickF, hr])
    (fun _ hI => ⟨-1, by unfold m22_l4; dsimp only; rw [lt_end]; rfl, by rw [hI]⟩) () rfl
  exact e
theorem pick_lt {g : List (List Int)} {n i : Nat} {out : List Int} (hg : Gr g n) (h : pickF out 0 g = some i) : i < n := by
  obtain ⟨q, l, h1, h2, h3⟩ := pickF_some out g 0 i h
  have := (List.getElem?_eq_some_iff.1 h2).1
  rw [hg.1] at this; omega
theorem m22_l5_eq {env : List Dcl} {g : List (List Int)} {M : OM} (hg : Gr g env.length) (hn : env.length ≤ 100000000) : ∀ (k m : Nat) (out : List Int) (done : List Bool), out.length + k = env.length → k < m → Done env.length out done →
    ∃ done', loopN (m22_l5 env (g, M)) m (out, done) = some (match orderG g k out with
      | .inl o => .inl (o, done')
      | .inr () => .inr ([], 22))
  | k, 0, out, done, _, h, _ => by omega
  | 0, m + 1, out, done, h, _, hd => by
    refine ⟨done, ?_⟩
    have : m22_l5 env (g, M) (out, done) = some (.done (.inl (out, done))) := by
      unfold m22_l5
      dsimp only
      rw [decide_eq_false (by omega)]; rfl
    simp only [loopN, this, orderG]
  | k + 1, m + 1, out, done, h, hm, hd => by
    have hl4 := m22_l4_eq (M := M) hg hn hd
    cases hp : pickF out 0 g with
    | none =>
      rw [hp] at hl4
      refine ⟨done, ?_⟩
      have : m22_l5 env (g, M) (out, done) = some (.done (.inr ([], 22))) := by
        unfold m22_l5
        dsimp only
        rw [decide_eq_true (by omega), cond_true, hl4]; rfl
      simp only [loopN, this, orderG, hp]
    | some i =>
      rw [hp] at hl4
      have hi := pick_lt hg hp
      have hs := hd.set hi
      obtain ⟨done', ih⟩ := m22_l5_eq hg hn k m (out ++ [(i : Int)]) (done.set i true) (by simp; omega) (by omega) hs
      refine ⟨done', ?_⟩
      have : m22_l5 env (g, M) (out, done) = some (.next (out ++ [(i : Int)], done.set i true)) := by
        unfold m22_l5
        dsimp only
        rw [decide_eq_true (by omega), cond_true, hl4, Option.bind_some]
        dsimp only
        rw [decide_eq_false (by omega), cond_false, hd.idx hi, Option.bind_some, guard_eq (by rw [hd.1]; simp), guard_le (by simp; omega)]
        simp
      simp only [loopN, this, orderG, hp]
      exact ih
inductive OSays (env : List Dcl) : List Int × Int → Prop
  | twice (h : ¬ (allNames env).Nodup) : OSays env ([], 8)
  | none (h : (allNames env).Nodup) (h2 : ¬ closedA env env) : OSays env ([], 9)
  | loop (h : (allNames env).Nodup) (h2 : closedA env env) (h3 : orderG (graphL env) env.length [] = .inr ()) : OSays env ([], 22)
  | ok (h : (allNames env).Nodup) (h2 : closedA env env) (o : List Int) (h3 : orderG (graphL env) env.length [] = .inl o) : OSays env (o, 0)
theorem OSays.uniq {env : List Dcl} {r s : List Int × Int} (h1 : OSays env r) (h2 : OSays env s) : r = s := by
  cases h1 <;> cases h2 <;> first | rfl | contradiction | (simp_all; done)
theorem m22_eq (env : List Dcl) (hl : envSz env ≤ 100000000) : ∃ r, m22 env = some r ∧ OSays env r := by
  have hel := env_len env
  unfold m22
  obtain ⟨r, e, hr⟩ := newGraph_eq (γ := Unit) env hl
  change ∃ r, Option.bind (Option.bind (loopN (m23_l1 env) FUEL (0, gmNil)) (Sum.elim (fun (o6 : OM) => Option.bind (loopN (m23_l3 env o6) FUEL (0, ([] : List (List Int)))) (Sum.elim (fun (o7 : List (List Int)) => some (.inl (o7, o6))) (fun o => some o))) (fun o => some o))) _ = some r ∧ _
  rw [e, Option.bind_some]
  rcases hr with ⟨h1, rfl⟩ | ⟨h1, h2, rfl⟩ | ⟨h1, h2, M, rfl, hM⟩
  · exact ⟨_, rfl, .twice h1⟩
  · exact ⟨_, rfl, .none h1 h2⟩
  · dsimp only [Sum.elim]
    rw [decide_eq_true (by omega), cond_true, show (env.length : Int).toNat = env.length by simp, guard_le (by omega)]
    obtain ⟨done', e2⟩ := m22_l5_eq (M := M) (graph_gr h2) (by omega) env.length FUEL [] (List.replicate env.length false) (by simp) (by unfold FUEL; omega) (Done.init _)
    rw [e2, Option.bind_some]
    cases ho : orderG (graphL env) env.length [] with
    | inl o => exact ⟨(o, 0), rfl, .ok h1 h2 o ho⟩
    | inr u => exact ⟨([], 22), rfl, .loop h1 h2 ho⟩
theorem m26_l0_eq {g : List (List Int)} {n e : Nat} {nx : Int} {out : List Int} (ho : out.length ≤ 900000000) {i : Nat} {l : List Int} (hi : g[i]? = some l) (hll : l.length ≤ 900000000) (b0 : Bool) (e : Int) :
    loopN (m26_l0 (g, e) (nx, (i : Int)) out) FUEL (b0, 0) = some (b0 && l.all fun j => decide (j ∈ out)) := by
  rw [loop_fold (step := m26_l0 (g, e) (nx, (i : Int)) out) l (fun k (b : Bool) => (b, k)) (fun b j => b && decide (j ∈ out)) b0 (b0 && l.all fun j => decide (j ∈ out)) hll
    (fun a x b hl => by
      unfold m26_l0
      dsimp only
      rw [show idx g (i : Int) = some l from hi]
      simp only [Option.bind_some]
      rw [hl, lt_mid, idx_mid]
      simp only [cond_true, Option.bind_some]
      rw [m49_eq out x ho]
      generalize List.foldl (fun b j => b && decide (j ∈ out)) b0 a = c
      cases c <;> rfl)
    (by
      unfold m26_l0
      dsimp only
      rw [show idx g (i : Int) = some l from hi]
      simp only [Option.bind_some]
      rw [lt_end, cond_false]
      have : ∀ (l : List Int) (b0 : Bool), l.foldl (fun b j => b && decide (j ∈ out)) b0 = (b0 && l.all fun j => decide (j ∈ out)) := by
        intro l
        induction l with
        | nil => intro b0; simp
        | cons x l ih => intro b0; rw [List.foldl_cons, ih, List.all_cons, Bool.and_assoc]
      rw [this])]
theorem m26_l1_eq {env : List Dcl} {g : List (List Int)} {out : List Int} (hg : Gr g env.length) (hn : env.length ≤ 100000000) (ho : out.length ≤ 900000000) (e0 : Int) : loopN (m26_l1 env out (g, e0)) FUEL (-1, 0) = some (match pickF out 0 g with
    | some i => (i : Int)
    | none => -1) := by
  obtain ⟨r, e, rfl⟩ := loop_all (step := m26_l1 env out (g, e0)) g (fun k (nx : Int) => (nx, k)) (fun a nx => (nx = -1 ∧ pickF out 0 a = none) ∨ (∃ i : Nat, nx = (i : Int) ∧ pickF out 0 a = some i)) (fun r => r = match pickF out 0 g with
      | some i => (i : Int)
      | none => -1) (by rw [hg.1]; omega)
    (fun a x b nx e hI => by
      have hx : x ∈ g := by rw [e]; simp
      obtain ⟨hx1, hx2⟩ := hg.2 x hx
      have hal : a.length < env.length := by rw [← hg.1]; exact mid_lt e
      rcases hI with ⟨rfl, hI⟩ | ⟨i, rfl, hI⟩
      · have hstep : m26_l1 env out (g, e0) (-1, (a.length : Int)) = some (.next ((if readyL out a.length x then (a.length : Int) else -1), w64 ((a.length : Int) + 1))) := by
          unfold m26_l1
          dsimp only
          rw [decide_eq_true (by omega), cond_true, Option.bind_some, decide_eq_true (by omega), cond_true, m49_eq _ _ ho, Option.bind_some, m26_l0_eq (n := 0) (e := 0) ho (l := x) (by rw [e]; simp) (by omega), Option.bind_some]
          unfold readyL
          by_cases ha : (a.length : Int) ∈ out
          · simp [ha]
          · cases h4 : (x.all fun j => decide (j ∈ out)) <;> simp [ha]
        refine .inr ⟨_, hstep, ?_⟩
        rw [pickF_app, hI, Nat.zero_add]
        cases hr : readyL out a.length x with
        | true => exact .inr ⟨a.length, by simp, by simp [pickF, hr]⟩
        | false => exact .inl ⟨by simp, by simp [pickF, hr]⟩
      · refine .inl ⟨(i : Int), ?_, ?_⟩
        · unfold m26_l1
          dsimp only
          rw [decide_eq_true (by omega), cond_true, Option.bind_some, decide_eq_false (by omega)]; rfl
        · rw [e, pickF_app, hI]; rfl)
    (fun nx hI => by
      refine ⟨nx, ?_, ?_⟩
      · unfold m26_l1
        dsimp only
        rw [hg.1, lt_end]; rfl
      · rcases hI with ⟨rfl, hI⟩ | ⟨i, rfl, hI⟩
        · rw [hI]
        · rw [hI]) (-1) (.inl ⟨rfl, rfl⟩)
  exact e
theorem m26_l2_eq {env : List Dcl} {g : List (List Int)} (hg : Gr g env.length) (hn : env.length ≤ 100000000) (e0 : Int) : ∀ (k m : Nat) (out : List Int), out.length + k = env.length → k < m →
    loopN (m26_l2 env (g, e0)) m out = some (match orderG g k out with
      | .inl o => .inl o
      | .inr () => .inr ([], 22))
  | k, 0, out, _, h => by omega
  | 0, m + 1, out, h, _ => by
    have : m26_l2 env (g, e0) out = some (.done (.inl out)) := by
      unfold m26_l2
      rw [decide_eq_false (by omega)]; rfl
    simp only [loopN, this, orderG]
  | k + 1, m + 1, out, h, hm => by
    have hl4 := m26_l1_eq hg hn (out := out) (by omega) e0
    cases hp : pickF out 0 g with
    | none =>
      rw [hp] at hl4
      have : m26_l2 env (g, e0) out = some (.done (.inr ([], 22))) := by
        unfold m26_l2
        rw [decide_eq_true (by omega), cond_true, hl4]; rfl
      simp only [loopN, this, orderG, hp]
    | some i =>
      rw [hp] at hl4
      have ih := m26_l2_eq hg hn e0 k m (out ++ [(i : Int)]) (by simp; omega) (by omega)
      have : m26_l2 env (g, e0) out = some (.next (out ++ [(i : Int)])) := by
        unfold m26_l2
        rw [decide_eq_true (by omega), cond_true, hl4, Option.bind_some]
        show cond (decide ((i : Int) < 0)) _ _ = _
        rw [decide_eq_false (by omega), cond_false, guard_le (by simp; omega)]
      simp only [loopN, this, orderG, hp]
      exact ih
theorem m26_eq (env : List Dcl) (hl : envSz env ≤ 100000000) : ∃ r, m26 env = some r ∧ OSays env r := by
  have hel := env_len env
  unfold m26
  obtain ⟨r, e, hr⟩ := m25_eq env hl
  rw [e, Option.bind_some]
  cases hr with
  | twice h => exact ⟨([], 8), rfl, .twice h⟩
  | none h h2 => exact ⟨([], 9), rfl, .none h h2⟩
  | ok h h2 =>
    show ∃ r, Option.bind (loopN (m26_l2 env (graphL env, 0)) FUEL ([] : List Int)) _ = some r ∧ _
    rw [m26_l2_eq (graph_gr h2) (by omega) 0 env.length FUEL [] (by simp) (by unfold FUEL; omega), Option.bind_some]
    cases ho : orderG (graphL env) env.length [] with
    | inl o => exact ⟨(o, 0), rfl, .ok h h2 o ho⟩
    | inr u => exact ⟨([], 22), rfl, .loop h h2 ho⟩
end Go.Proofs.Ytijcchddnnnmdaa
namespace Go.Proofs.Ytijcchddnnnmdaa
open Go.RowKit Go.Shelf
set_option linter.unusedSimpArgs false
set_option linter.unusedVariables false
theorem st_9 : isStrTy Try.prog 9 = true := by kernel_rfl
theorem en_9 : Enters Try.prog 9 := enters_of Try.func9 (by kernel_rfl) rfl
theorem en_30 : Enters Try.prog 30 := enters_of Try.func30 (by kernel_rfl) rfl
theorem en_50 : Enters Try.prog 50 := enters_of Try.func50 (by kernel_rfl) rfl
theorem en_51 : Enters Try.prog 51 := enters_of Try.func51 (by kernel_rfl) rfl
theorem en_65 : Enters Try.prog 65 := enters_of Try.func65 (by kernel_rfl) rfl
theorem en_66 : Enters Try.prog 66 := enters_of Try.func66 (by kernel_rfl) rfl
def m65_l0 (a0 : Tm) (rc : Tm → Option Int) (s1 : Int × Int) : Option (LO (Int × Int) Int) :=
  cond (decide (s1.2 < (a0.kids.length : Int)))
    (Option.bind (idx a0.kids s1.2) fun (x3 : Tm) =>
  Option.bind (rc x3) fun (x4 : Int) =>
  some (.next ((w64 (s1.1 + x4)), (w64 (s1.2 + 1)))))
    (some (.done s1.1))
def m65s (rc : Tm → Option Int) (a0 : Tm) : Option Int :=
  Option.bind (loopN (m65_l0 a0 rc) FUEL (1, 0)) (fun (o1 : Int) => some o1)
def m65F (rc : Tm → Option Int) (u : Tm) : Option Int := m65s rc u
def m65 (a0 : Tm) : Option Int := recO m65F FUEL a0
set_option maxRecDepth 100000 in
set_option maxHeartbeats 2000000 in
theorem m65s_ok (rc : Tm → Option Int) (H : ∀ (a0 : Tm) (r : Int), rc a0 = some r → Fun Try.prog 65 [.agg (cE a0)] (resOf [.one (dI r)])) (a0 : Tm) (r : Int) (h0 : m65s rc a0 = some r) : Fun Try.prog 65 [.agg (cE a0)] (resOf [.one (dI r)]) := by
  unfold m65s at h0
  refine Fun.of_bodyM 9 21 Try.func65 rfl en_65 rfl (lb rfl) (fun S w => ?_)
  simp only [entry]
  refine XC.seq <| XC.region <| XL.put rfl rfl (lb rfl) (OpOK.box rfl) <| rA rfl rfl rfl <| XL.nil <| XQ.seq <| XC.seq <| XC.region <| rA rfl rfl rfl <| XL.nil <| XQ.seq <| XC.seq <| XC.seq <| XC.region ?_
  refine rA rfl rfl rfl <| XL.nil <| XQ.seq <| XC.block ?_
  refine XC.joinX 0 (fun (o1 : Int) => ⟨[(3, .v (.one (dI o1)))], [(0, .cells 42 (cE a0))], [], 1, 21, []⟩) (fun (o1 : Int) => (some o1) = some r) ?_ ?_
  ·
   refine bindK h0 (fun o2 hl1 h0 => ?_)
   refine XC.loopM (m65_l0 a0 rc) (fun s1 => ⟨[(1, .v (.one (.ptr 0 0))), (3, .v (.one (dI s1.1))), (4, .v (.one (dI s1.2)))], [(0, .cells 42 (cE a0))], [], 1, 21, []⟩) (1, 0) o2 (stle (tR rfl (tR rfl (tR rfl tZ))) (hR rfl hZ) kZ rfl (Nat.zero_le _) rfl rfl rfl (bB rfl rfl bZ) rfl rfl) hl1 (fun s1 n1 oo1 h1 ho1 => ?_)
   unfold m65_l0 at h1
   refine XC.seq <| XC.seq <| XC.region <| rM rfl rfl rfl <| rR rfl rfl rfl (RO.fieldOwn fo_42_4 rfl) <| rR rfl rfl rfl (RO.loadOwn ag_40 rfl rfl rfl) <| rR rfl rfl rfl (RO.lenE (α := Tm) sl_40 rfl (.d _)) <| rR rfl rfl rfl (RO.binInt rfl rfl rfl) <| XL.nil <| XQ.seq ?_
   refine XC.cond (b := (decide (s1.2 < (a0.kids.length : Int)))) rfl (fun c3 => ?_) (fun c3 => ?_)
   ·
    replace h1 := condT c3 h1
    refine XC.skip <| XQ.seq <| XC.seq <| XC.block <| XC.region <| rM rfl rfl rfl <| rR rfl rfl rfl (RO.fieldOwn fo_42_4 rfl) <| rR rfl rfl rfl (RO.loadOwn ag_40 rfl rfl rfl) <| rM rfl rfl rfl ?_
    refine bindK h1 (fun x4 hx4 h1 => ?_)
    refine rR rfl rfl rfl (RO.indexE (α := Tm) sl_40 rfl (.d _) rfl hx4) <| rR rfl rfl rfl (RO.loadPelCE (x4 : Tm) ag_42 rfl) ?_
    refine bindK h1 (fun x5 hx5 h1 => ?_)
    refine XL.put rfl rfl (lb rfl) (OpOK.callFun (H x4 x5 hx5) rfl (.cons (.agg (.cons (.d _) (.cons (.d _) (.cons (.d _) (.cons (.d _) (.cons (.d _) .nil)))))) .nil)) <| rR rfl rfl rfl (RO.binInt rfl rfl rfl) <| rA rfl rfl rfl <| XL.nil <| XQ.inBlock <| XQ.seq <| XC.region <| rM rfl rfl rfl <| rR rfl rfl rfl (RO.binInt rfl rfl rfl) <| rA rfl rfl rfl <| XL.nil ?_
    have e_ := Option.some.inj h1
    subst e_
    refine XQ.nextM ((w64 (s1.1 + x5)), (w64 (s1.2 + 1))) (stle (tR rfl (tR rfl (tR rfl tZ))) (hR rfl hZ) kZ rfl (Nat.zero_le _) rfl rfl rfl (bB rfl rfl bZ) rfl rfl) ho1
   ·
    replace h1 := condF c3 h1
    refine XC.exit <| XQ.thenE <| XQ.thenE ?_
    have e_ := Option.some.inj h1
    subst e_
    have e_ : _ = _ := ho1
    subst e_
    exact XQ.joinX s1.1 (stle (tR rfl tZ) (hR rfl hZ) kZ rfl (Nat.zero_le _) rfl rfl rfl (bB rfl rfl bZ) rfl rfl) h0
  ·
   intro o1 h0
   refine XQ.blockX <| XQ.seq <| XC.seq <| XC.region <| rM rfl rfl rfl <| rA rfl rfl rfl <| XL.nil <| XQ.seq <| XC.ret ?_
   have e_ := Option.some.inj h0
   subst e_
   exact XQ.retF (fun _ _ h => h) rfl (RAs.tmp rfl .nil) (.cons (.one (.d _)) .nil)
theorem m65_all (n : Nat) (u : Tm) (r : Int) (h0 : recO m65F n u = some r) : Fun Try.prog 65 [.agg (cE u)] (resOf [.one (dI r)]) :=
  recO_ind (C := fun u r => Fun Try.prog 65 [.agg (cE u)] (resOf [.one (dI r)])) (fun rc H u r h => m65s_ok rc (fun a0 r h => H a0 r h) u r h) n u r h0
theorem m65_ok (a0 : Tm) (r : Int) (h0 : m65 a0 = some r) : Fun Try.prog 65 [.agg (cE a0)] (resOf [.one (dI r)]) := m65_all FUEL a0 r h0
def m66_l0 (a0 : Tm) (rc : Tm → Option Int) (s1 : Int × Int) : Option (LO (Int × Int) Int) :=
  cond (decide (s1.2 < (a0.kids.length : Int)))
    (Option.bind (idx a0.kids s1.2) fun (x3 : Tm) =>
  Option.bind (rc x3) fun (x4 : Int) =>
  some (.next ((max s1.1 x4), (w64 (s1.2 + 1)))))
    (some (.done s1.1))
def m66s (rc : Tm → Option Int) (a0 : Tm) : Option Int :=
  Option.bind (loopN (m66_l0 a0 rc) FUEL (0, 0)) (fun (o1 : Int) => some (w64 (o1 + 1)))
def m66F (rc : Tm → Option Int) (u : Tm) : Option Int := m66s rc u
def m66 (a0 : Tm) : Option Int := recO m66F FUEL a0
set_option maxRecDepth 100000 in
set_option maxHeartbeats 2000000 in
theorem m66s_ok (rc : Tm → Option Int) (H : ∀ (a0 : Tm) (r : Int), rc a0 = some r → Fun Try.prog 66 [.agg (cE a0)] (resOf [.one (dI r)])) (a0 : Tm) (r : Int) (h0 : m66s rc a0 = some r) : Fun Try.prog 66 [.agg (cE a0)] (resOf [.one (dI r)]) := by
  unfold m66s at h0
  refine Fun.of_bodyM 9 22 Try.func66 rfl en_66 rfl (lb rfl) (fun S w => ?_)
  simp only [entry]
  refine XC.seq <| XC.region <| XL.put rfl rfl (lb rfl) (OpOK.box rfl) <| rA rfl rfl rfl <| XL.nil <| XQ.seq <| XC.seq <| XC.region <| rA rfl rfl rfl <| XL.nil <| XQ.seq <| XC.seq <| XC.seq <| XC.region ?_
  refine rA rfl rfl rfl <| XL.nil <| XQ.seq <| XC.block ?_
  refine XC.joinX 0 (fun (o1 : Int) => ⟨[(3, .v (.one (dI o1)))], [(0, .cells 42 (cE a0))], [], 1, 22, []⟩) (fun (o1 : Int) => (some (w64 (o1 + 1))) = some r) ?_ ?_
  ·
   refine bindK h0 (fun o2 hl1 h0 => ?_)
   refine XC.loopM (m66_l0 a0 rc) (fun s1 => ⟨[(1, .v (.one (.ptr 0 0))), (3, .v (.one (dI s1.1))), (4, .v (.one (dI s1.2)))], [(0, .cells 42 (cE a0))], [], 1, 22, []⟩) (0, 0) o2 (stle (tR rfl (tR rfl (tR rfl tZ))) (hR rfl hZ) kZ rfl (Nat.zero_le _) rfl rfl rfl (bB rfl rfl bZ) rfl rfl) hl1 (fun s1 n1 oo1 h1 ho1 => ?_)
   unfold m66_l0 at h1
   refine XC.seq <| XC.seq <| XC.region <| rM rfl rfl rfl <| rR rfl rfl rfl (RO.fieldOwn fo_42_4 rfl) <| rR rfl rfl rfl (RO.loadOwn ag_40 rfl rfl rfl) <| rR rfl rfl rfl (RO.lenE (α := Tm) sl_40 rfl (.d _)) <| rR rfl rfl rfl (RO.binInt rfl rfl rfl) <| XL.nil <| XQ.seq ?_
   refine XC.cond (b := (decide (s1.2 < (a0.kids.length : Int)))) rfl (fun c3 => ?_) (fun c3 => ?_)
   ·
    replace h1 := condT c3 h1
    refine XC.skip <| XQ.seq <| XC.seq <| XC.block <| XC.region <| rM rfl rfl rfl <| rR rfl rfl rfl (RO.fieldOwn fo_42_4 rfl) <| rR rfl rfl rfl (RO.loadOwn ag_40 rfl rfl rfl) <| rM rfl rfl rfl ?_
    refine bindK h1 (fun x4 hx4 h1 => ?_)
    refine rR rfl rfl rfl (RO.indexE (α := Tm) sl_40 rfl (.d _) rfl hx4) <| rR rfl rfl rfl (RO.loadPelCE (x4 : Tm) ag_42 rfl) ?_
    refine bindK h1 (fun x5 hx5 h1 => ?_)
    refine XL.put rfl rfl (lb rfl) (OpOK.callFun (H x4 x5 hx5) rfl (.cons (.agg (.cons (.d _) (.cons (.d _) (.cons (.d _) (.cons (.d _) (.cons (.d _) .nil)))))) .nil)) <| rR rfl rfl rfl (RO.max2 rfl rfl) <| rA rfl rfl rfl <| XL.nil <| XQ.inBlock <| XQ.seq <| XC.region <| rM rfl rfl rfl <| rR rfl rfl rfl (RO.binInt rfl rfl rfl) <| rA rfl rfl rfl <| XL.nil ?_
    have e_ := Option.some.inj h1
    subst e_
    refine XQ.nextM ((max s1.1 x5), (w64 (s1.2 + 1))) (stle (tR rfl (tR rfl (tR rfl tZ))) (hR rfl hZ) kZ rfl (Nat.zero_le _) rfl rfl rfl (bB rfl rfl bZ) rfl rfl) ho1
   ·
    replace h1 := condF c3 h1
    refine XC.exit <| XQ.thenE <| XQ.thenE ?_
    have e_ := Option.some.inj h1
    subst e_
    have e_ : _ = _ := ho1
    subst e_
    exact XQ.joinX s1.1 (stle (tR rfl tZ) (hR rfl hZ) kZ rfl (Nat.zero_le _) rfl rfl rfl (bB rfl rfl bZ) rfl rfl) h0
  ·
   intro o1 h0
   refine XQ.blockX <| XQ.seq <| XC.seq <| XC.region <| rM rfl rfl rfl <| rR rfl rfl rfl (RO.binInt rfl rfl rfl) <| rA rfl rfl rfl <| XL.nil <| XQ.seq <| XC.ret ?_
   have e_ := Option.some.inj h0
   subst e_
   exact XQ.retF (fun _ _ h => h) rfl (RAs.tmp rfl .nil) (.cons (.one (.d _)) .nil)
theorem m66_all (n : Nat) (u : Tm) (r : Int) (h0 : recO m66F n u = some r) : Fun Try.prog 66 [.agg (cE u)] (resOf [.one (dI r)]) :=
  recO_ind (C := fun u r => Fun Try.prog 66 [.agg (cE u)] (resOf [.one (dI r)])) (fun rc H u r h => m66s_ok rc (fun a0 r h => H a0 r h) u r h) n u r h0
theorem m66_ok (a0 : Tm) (r : Int) (h0 : m66 a0 = some r) : Fun Try.prog 66 [.agg (cE a0)] (resOf [.one (dI r)]) := m66_all FUEL a0 r h0
def m50 (a0 : Tm) : Option Bool :=
  Option.bind (Option.bind (m65 a0) fun (x2 : Int) =>
  cond (decide (x2 ≤ 400))
    (Option.bind (m66 a0) fun (x4 : Int) =>
  some (decide (x4 ≤ 150)))
    (some false)) (fun (v1 : Bool) => some v1)
set_option maxRecDepth 100000 in
set_option maxHeartbeats 2000000 in
theorem m50_ok (a0 : Tm) (r : Bool) (h0 : m50 a0 = some r) : Fun Try.prog 50 [.agg (cE a0)] (resOf [.one (dB r)]) := by
  unfold m50 at h0
  refine Fun.of_bodyM 9 11 Try.func50 rfl en_50 rfl (lb rfl) (fun S w => ?_)
  simp only [entry]
  refine XC.seq <| XC.region <| XL.put rfl rfl (lb rfl) (OpOK.box rfl) <| rA rfl rfl rfl <| XL.nil <| XQ.seq <| XC.seq ?_
  refine XC.joinR (fun (v1 : Bool) => ⟨[(2, .v (.one (dB v1)))], [(0, .cells 42 (cE a0))], [], 1, 11, []⟩) (fun (v1 : Bool) => (some v1) = some r) ?_ ?_
  ·
   refine bindK h0 (fun w1_ h1 h0 => ?_)
   refine XC.region <| rR rfl rfl rfl (RO.loadCE (a0 : Tm) ag_42 rfl rfl) ?_
   refine bindK h1 (fun x2 hx2 h1 => ?_)
   refine XL.put rfl rfl (lb rfl) (OpOK.callFun (m65_ok a0 x2 hx2) rfl (.cons (.agg (.cons (.d _) (.cons (.d _) (.cons (.d _) (.cons (.d _) (.cons (.d _) .nil)))))) .nil)) <| rR rfl rfl rfl (RO.binInt rfl rfl rfl) <| rM rfl rfl rfl ?_
   refine XL.case (d := 6) (c := (decide (x2 ≤ 400))) rfl (fun c3 => ?_) (fun c3 => ?_)
   ·
    replace h1 := condT c3 h1
    refine rR rfl rfl rfl (RO.loadCE (a0 : Tm) ag_42 rfl rfl) ?_
    refine bindK h1 (fun x4 hx4 h1 => ?_)
    refine XL.put rfl rfl (lb rfl) (OpOK.callFun (m66_ok a0 x4 hx4) rfl (.cons (.agg (.cons (.d _) (.cons (.d _) (.cons (.d _) (.cons (.d _) (.cons (.d _) .nil)))))) .nil)) <| rR rfl rfl rfl (RO.binInt rfl rfl rfl) <| rR rfl rfl rfl (RO.pickT rfl rfl) <| rA rfl rfl rfl <| XL.nil ?_
    have e_ := Option.some.inj h1
    subst e_
    exact XQ.joinR (decide (x4 ≤ 150)) (stle (tR rfl tZ) (hR rfl hZ) kZ rfl (Nat.zero_le _) rfl rfl rfl (bB rfl rfl bZ) rfl rfl) h0
   ·
    replace h1 := condF c3 h1
    refine XL.no rfl rfl <| XL.no rfl rfl <| XL.no rfl rfl <| rR rfl rfl rfl (RO.pickF rfl rfl) <| rA rfl rfl rfl <| XL.nil ?_
    have e_ := Option.some.inj h1
    subst e_
    exact XQ.joinR false (stle (tR rfl tZ) (hR rfl hZ) kZ rfl (Nat.zero_le _) rfl rfl rfl (bB rfl rfl bZ) rfl rfl) h0
  ·
   intro v1 h0
   refine XQ.seq <| XC.ret ?_
   have e_ := Option.some.inj h0
   subst e_
   exact XQ.retF (fun _ _ h => h) rfl (RAs.tmp rfl .nil) (.cons (.one (.d _)) .nil)
def m51_l0 (a0 : Tr) (rc : Tr × Int → Option Bool) (a1 : Int) (s1 : Int) : Option (LO Int (Unit ⊕ Bool)) :=
  cond (decide (s1 < (a0.branches.length : Int)))
    (Option.bind (Option.bind (idx a0.branches s1) fun (x6 : Br) =>
  Option.bind (rc (x6.tree, (w64 (a1 + 1)))) fun (x7 : Bool) =>
  cond (!x7)
    (some true)
    (Option.bind (idx a0.branches s1) fun (x9 : Br) =>
  some (decide (200 < (x9.ctor.length : Int))))) (fun (v5 : Bool) => cond v5
    (some (.done (.inr false)))
    (some (.next (w64 (s1 + 1))))))
    (some (.done (.inl ())))
def m51s (rc : Tr × Int → Option Bool) (a0 : Tr) (a1 : Int) : Option Bool :=
  Option.bind (cond (decide (40 < a1))
    (some true)
    (cond (decide (40 < (a0.branches.length : Int)))
    (some true)
    (Option.bind (m50 a0.body) fun (x4 : Bool) =>
  some (!x4)))) (fun (v1 : Bool) => cond v1
    (some false)
    (Option.bind (loopN (m51_l0 a0 rc a1) FUEL 0) (Sum.elim (fun (o3 : Unit) => some true) (fun o => some o))))
def m51F (rc : Tr × Int → Option Bool) (u : Tr × Int) : Option Bool := m51s rc u.1 u.2
def m51 (a0 : Tr) (a1 : Int) : Option Bool := recO m51F FUEL (a0, a1)
set_option maxRecDepth 100000 in
set_option maxHeartbeats 2000000 in
theorem m51s_ok (rc : Tr × Int → Option Bool) (H : ∀ (a0 : Tr) (a1 : Int) (r : Bool), rc (a0, a1) = some r → Fun Try.prog 51 [.agg (cE a0), .one (dI a1)] (resOf [.one (dB r)])) (a0 : Tr) (a1 : Int) (r : Bool) (h0 : m51s rc a0 a1 = some r) : Fun Try.prog 51 [.agg (cE a0), .one (dI a1)] (resOf [.one (dB r)]) := by
  unfold m51s at h0
  refine Fun.of_bodyM 9 47 Try.func51 rfl en_51 rfl (lb rfl) (fun S w => ?_)
  simp only [entry]
  refine XC.seq <| XC.region <| XL.put rfl rfl (lb rfl) (OpOK.box rfl) <| rA rfl rfl rfl <| XL.nil <| XQ.seq <| XC.seq <| XC.seq ?_
  refine XC.joinR (fun (v1 : Bool) => ⟨[(1, .v (.one (dI a1))), (2, .v (.one (.ptr 0 0))), (19, .v (.one (dB v1)))], [(0, .cells 87 (cE a0))], [], 1, 47, []⟩) (fun (v1 : Bool) => (cond v1
      (some false)
      (Option.bind (loopN (m51_l0 a0 rc a1) FUEL 0) (Sum.elim (fun (o3 : Unit) => some true) (fun o => some o)))) = some r) ?_ ?_
  ·
   refine bindK h0 (fun w1_ h1 h0 => ?_)
   refine XC.region <| rM rfl rfl rfl <| rR rfl rfl rfl (RO.binInt rfl rfl rfl) <| rM rfl rfl rfl ?_
   refine XL.case (d := 8) (c := (decide (40 < a1))) rfl (fun c2 => ?_) (fun c2 => ?_)
   ·
    replace h1 := condT c2 h1
    refine XL.no rfl rfl <| XL.no rfl rfl <| XL.no rfl rfl <| XL.no rfl rfl <| rR rfl rfl rfl (RO.pickT rfl rfl) <| rM rfl rfl rfl <| XL.no rfl rfl <| XL.no rfl rfl <| XL.no rfl rfl <| XL.no rfl rfl <| rR rfl rfl rfl (RO.pickT rfl rfl) <| XL.nil ?_
    have e_ := Option.some.inj h1
    subst e_
    exact XQ.joinR true (stle (tR rfl (tR rfl (tR rfl tZ))) (hR rfl hZ) kZ rfl (Nat.zero_le _) rfl rfl rfl (bB rfl rfl bZ) rfl rfl) h0
   ·
    replace h1 := condF c2 h1
    refine rR rfl rfl rfl (RO.fieldOwn fo_87_3 rfl) <| rR rfl rfl rfl (RO.loadOwn ag_85 rfl rfl rfl) <| rR rfl rfl rfl (RO.lenE (α := Br) sl_85 rfl (.d _)) <| rR rfl rfl rfl (RO.binInt rfl rfl rfl) <| rR rfl rfl rfl (RO.pickF rfl rfl) <| rM rfl rfl rfl ?_
    refine XL.case (d := 14) (c := (decide (40 < (a0.branches.length : Int)))) rfl (fun c3 => ?_) (fun c3 => ?_)
    ·
     replace h1 := condT c3 h1
     refine XL.no rfl rfl <| XL.no rfl rfl <| XL.no rfl rfl <| XL.no rfl rfl <| rR rfl rfl rfl (RO.pickT rfl rfl) <| XL.nil ?_
     have e_ := Option.some.inj h1
     subst e_
     exact XQ.joinR true (stle (tR rfl (tR rfl (tR rfl tZ))) (hR rfl hZ) kZ rfl (Nat.zero_le _) rfl rfl rfl (bB rfl rfl bZ) rfl rfl) h0
    ·
     replace h1 := condF c3 h1
     refine rR rfl rfl rfl (RO.fieldOwn fo_87_1 rfl) <| rR rfl rfl rfl (RO.loadOwnAgg ag_42 rfl rfl rfl rfl) ?_
     refine bindK h1 (fun x4 hx4 h1 => ?_)
     refine XL.put rfl rfl (lb rfl) (OpOK.callFun (m50_ok a0.body x4 hx4) rfl (.cons (.agg (.cons (.d _) (.cons (.d _) (.cons (.d _) (.cons (.d _) (.cons (.d _) .nil)))))) .nil)) <| rR rfl rfl rfl (RO.not rfl) <| rR rfl rfl rfl (RO.pickF rfl rfl) <| XL.nil ?_
     have e_ := Option.some.inj h1
     subst e_
     exact XQ.joinR (!x4) (stle (tR rfl (tR rfl (tR rfl tZ))) (hR rfl hZ) kZ rfl (Nat.zero_le _) rfl rfl rfl (bB rfl rfl bZ) rfl rfl) h0
  ·
   intro v1 h0
   refine XQ.seq ?_
   refine XC.cond (b := v1) rfl (fun c5 => ?_) (fun c5 => ?_)
   ·
    replace h0 := condT c5 h0
    refine XC.seq <| XC.region <| rA rfl rfl rfl <| XL.nil <| XQ.seq <| XC.ret ?_
    have e_ := Option.some.inj h0
    subst e_
    exact XQ.retF (fun _ _ h => h) rfl (RAs.tmp rfl .nil) (.cons (.one (.d _)) .nil)
   ·
    replace h0 := condF c5 h0
    refine XC.skip <| XQ.seq <| XC.seq <| XC.seq <| XC.region <| rA rfl rfl rfl <| XL.nil <| XQ.seq <| XC.block ?_
    refine XC.joinX 0 (fun (o6 : Unit) => ⟨[], [(0, .cells 87 (cE a0))], [], 1, 47, []⟩) (fun (o6 : Unit) => (some true) = some r) ?_ ?_
    ·
     refine bindK h0 (fun o7 hl1 h0 => ?_)
     refine XC.loopM (m51_l0 a0 rc a1) (fun s1 => ⟨[(1, .v (.one (dI a1))), (2, .v (.one (.ptr 0 0))), (5, .v (.one (dI s1)))], [(0, .cells 87 (cE a0))], [], 1, 47, []⟩) 0 o7 (stle (tR rfl (tR rfl (tR rfl tZ))) (hR rfl hZ) kZ rfl (Nat.zero_le _) rfl rfl rfl (bB rfl rfl bZ) rfl rfl) hl1 (fun s1 n1 oo1 h1 ho1 => ?_)
     unfold m51_l0 at h1
     refine XC.seq <| XC.seq <| XC.region <| rM rfl rfl rfl <| rR rfl rfl rfl (RO.fieldOwn fo_87_3 rfl) <| rR rfl rfl rfl (RO.loadOwn ag_85 rfl rfl rfl) <| rR rfl rfl rfl (RO.lenE (α := Br) sl_85 rfl (.d _)) <| rR rfl rfl rfl (RO.binInt rfl rfl rfl) <| XL.nil <| XQ.seq ?_
     refine XC.cond (b := (decide (s1 < (a0.branches.length : Int)))) rfl (fun c8 => ?_) (fun c8 => ?_)
     ·
      replace h1 := condT c8 h1
      refine XC.skip <| XQ.seq <| XC.seq <| XC.block <| XC.seq ?_
      refine XC.joinR (fun (v9 : Bool) => ⟨[(1, .v (.one (dI a1))), (2, .v (.one (.ptr 0 0))), (5, .v (.one (dI s1))), (46, .v (.one (dB v9)))], [(0, .cells 87 (cE a0))], [], 1, 47, []⟩) (fun (v9 : Bool) => (cond v9
          (some (.done (.inr false)))
          (some (.next (w64 (s1 + 1))))) = some oo1) ?_ ?_
      ·
       refine bindK h1 (fun w2_ h2 h1 => ?_)
       refine XC.region <| rR rfl rfl rfl (RO.fieldOwn fo_87_3 rfl) <| rR rfl rfl rfl (RO.loadOwn ag_85 rfl rfl rfl) <| rM rfl rfl rfl ?_
       refine bindK h2 (fun x10 hx10 h2 => ?_)
       refine rR rfl rfl rfl (RO.indexE (α := Br) sl_85 rfl (.d _) rfl hx10) <| rR rfl rfl rfl (RO.fieldPel fo_115_2 rfl) <| rR rfl rfl rfl (RO.loadPelAgg ag_87 rfl rfl rfl) <| rM rfl rfl rfl <| rR rfl rfl rfl (RO.binInt rfl rfl rfl) ?_
       refine bindK h2 (fun x11 hx11 h2 => ?_)
       refine XL.put rfl rfl (lb rfl) (OpOK.callFun (H x10.tree (w64 (a1 + 1)) x11 hx11) rfl (.cons (.agg (.cons (.d _) (.cons (.d _) (.cons (.d _) (.cons (.d _) (.cons (.d _) (.cons (.d _) (.cons (.d _) (.cons (.d _) .nil))))))))) (.cons (.one (.d _)) .nil))) <| rR rfl rfl rfl (RO.not rfl) <| rM rfl rfl rfl ?_
       refine XL.case (d := 37) (c := (!x11)) rfl (fun c12 => ?_) (fun c12 => ?_)
       ·
        replace h2 := condT c12 h2
        refine XL.no rfl rfl <| XL.no rfl rfl <| XL.no rfl rfl <| XL.no rfl rfl <| XL.no rfl rfl <| XL.no rfl rfl <| XL.no rfl rfl <| XL.no rfl rfl <| rR rfl rfl rfl (RO.pickT rfl rfl) <| XL.nil ?_
        have e_ := Option.some.inj h2
        subst e_
        exact XQ.joinR true (stle (tR rfl (tR rfl (tR rfl (tR rfl tZ)))) (hR rfl hZ) kZ rfl (Nat.zero_le _) rfl rfl rfl (bB rfl rfl bZ) rfl rfl) h1
       ·
        replace h2 := condF c12 h2
        refine rR rfl rfl rfl (RO.fieldOwn fo_87_3 rfl) <| rR rfl rfl rfl (RO.loadOwn ag_85 rfl rfl rfl) <| rM rfl rfl rfl ?_
        refine bindK h2 (fun x13 hx13 h2 => ?_)
        refine rR rfl rfl rfl (RO.indexE (α := Br) sl_85 rfl (.d _) rfl hx13) <| rR rfl rfl rfl (RO.fieldPel fo_115_0 rfl) <| rR rfl rfl rfl (RO.loadPel ag_9 rfl rfl) <| rR rfl rfl rfl (RO.lenS st_9 rfl) <| rR rfl rfl rfl (RO.binInt rfl rfl rfl) <| rR rfl rfl rfl (RO.pickF rfl rfl) <| XL.nil ?_
        have e_ := Option.some.inj h2
        subst e_
        exact XQ.joinR (decide (200 < (x13.ctor.length : Int))) (stle (tR rfl (tR rfl (tR rfl (tR rfl tZ)))) (hR rfl hZ) kZ rfl (Nat.zero_le _) rfl rfl rfl (bB rfl rfl bZ) rfl rfl) h1
      ·
       intro v9 h1
       refine XQ.seq ?_
       refine XC.cond (b := v9) rfl (fun c14 => ?_) (fun c14 => ?_)
       ·
        replace h1 := condT c14 h1
        refine XC.seq <| XC.region <| rA rfl rfl rfl <| XL.nil <| XQ.seq <| XC.ret ?_
        have e_ := Option.some.inj h1
        subst e_
        have e_ : _ = _ := ho1
        subst e_
        try dsimp only [Sum.elim_inl, Sum.elim_inr] at h0
        have e_ := Option.some.inj h0
        subst e_
        exact XQ.retF (fun _ _ h => h) rfl (RAs.tmp rfl .nil) (.cons (.one (.d _)) .nil)
       ·
        replace h1 := condF c14 h1
        refine XC.skip <| XQ.inBlock <| XQ.seq <| XC.region <| rM rfl rfl rfl <| rR rfl rfl rfl (RO.binInt rfl rfl rfl) <| rA rfl rfl rfl <| XL.nil ?_
        have e_ := Option.some.inj h1
        subst e_
        refine XQ.nextM (w64 (s1 + 1)) (stle (tR rfl (tR rfl (tR rfl tZ))) (hR rfl hZ) kZ rfl (Nat.zero_le _) rfl rfl rfl (bB rfl rfl bZ) rfl rfl) ho1
     ·
      replace h1 := condF c8 h1
      refine XC.exit <| XQ.thenE <| XQ.thenE ?_
      have e_ := Option.some.inj h1
      subst e_
      have e_ : _ = _ := ho1
      subst e_
      exact XQ.joinX () (stle tZ (hR rfl hZ) kZ rfl (Nat.zero_le _) rfl rfl rfl (bB rfl rfl bZ) rfl rfl) h0
    ·
     intro o6 h0
     refine XQ.blockX <| XQ.seq <| XC.seq <| XC.region <| rA rfl rfl rfl <| XL.nil <| XQ.seq <| XC.ret ?_
     have e_ := Option.some.inj h0
     subst e_
     exact XQ.retF (fun _ _ h => h) rfl (RAs.tmp rfl .nil) (.cons (.one (.d _)) .nil)
theorem m51_all (n : Nat) (u : Tr × Int) (r : Bool) (h0 : recO m51F n u = some r) : Fun Try.prog 51 [.agg (cE u.1), .one (dI u.2)] (resOf [.one (dB r)]) :=
  recO_ind (C := fun u r => Fun Try.prog 51 [.agg (cE u.1), .one (dI u.2)] (resOf [.one (dB r)])) (fun rc H u r h => m51s_ok rc (fun a0 a1 r h => H (a0, a1) r h) u.1 u.2 r h) n u r h0
theorem m51_ok (a0 : Tr) (a1 : Int) (r : Bool) (h0 : m51 a0 a1 = some r) : Fun Try.prog 51 [.agg (cE a0), .one (dI a1)] (resOf [.one (dB r)]) := m51_all FUEL (a0, a1) r h0
def m30_l0 (a0 : Dcl) (s1 : Int) : Option (LO Int (Unit ⊕ Bool)) :=
  cond (decide (s1 < (a0.ctors.length : Int)))
    (Option.bind (Option.bind (idx a0.ctors s1) fun (x6 : Ctr) =>
  cond (decide (200 < (x6.name.length : Int)))
    (some true)
    (Option.bind (idx a0.ctors s1) fun (x8 : Ctr) =>
  Option.bind (m50 x8.ty) fun (x9 : Bool) =>
  some (!x9))) (fun (v5 : Bool) => cond v5
    (some (.done (.inr false)))
    (some (.next (w64 (s1 + 1))))))
    (some (.done (.inl ())))
def m30_l1 (a0 : Dcl) (s1 : Int) : Option (LO Int (Unit ⊕ Bool)) :=
  cond (decide (s1 < (a0.rcr.rules.length : Int)))
    (Option.bind (idx a0.rcr.rules s1) fun (x6 : Tm) =>
  Option.bind (m50 x6) fun (x7 : Bool) =>
  cond (!x7)
    (some (.done (.inr false)))
    (some (.next (w64 (s1 + 1)))))
    (some (.done (.inl ())))
def m30_l2 (a0 : Dcl) (s1 : Int) : Option (LO Int (Unit ⊕ Bool)) :=
  cond (decide (s1 < (a0.funs.length : Int)))
    (Option.bind (Option.bind (idx a0.funs s1) fun (x8 : Fn) =>
  cond (decide (200 < (x8.name.length : Int)))
    (some true)
    (Option.bind (idx a0.funs s1) fun (x10 : Fn) =>
  Option.bind (m50 x10.ty) fun (x11 : Bool) =>
  cond (!x11)
    (some true)
    (Option.bind (idx a0.funs s1) fun (x13 : Fn) =>
  Option.bind (m51 x13.tree 0) fun (x14 : Bool) =>
  some (!x14)))) (fun (v7 : Bool) => cond v7
    (some (.done (.inr false)))
    (some (.next (w64 (s1 + 1))))))
    (some (.done (.inl ())))
def m30 (a0 : Dcl) : Option Bool :=
  Option.bind (cond (decide (200 < (a0.name.length : Int)))
    (some true)
    (Option.bind (m50 a0.ty) fun (x3 : Bool) =>
  cond (!x3)
    (some true)
    (Option.bind (m50 a0.value) fun (x5 : Bool) =>
  cond (!x5)
    (some true)
    (cond (decide (40 < (a0.ctors.length : Int)))
    (some true)
    (cond (decide (12 < (a0.funs.length : Int)))
    (some true)
    (Option.bind (m50 a0.rcr.ty) fun (x9 : Bool) =>
  cond (!x9)
    (some true)
    (some (decide (40 < (a0.rcr.rules.length : Int)))))))))) (fun (v1 : Bool) => cond v1
    (some false)
    (Option.bind (loopN (m30_l0 a0) FUEL 0) (Sum.elim (fun (o3 : Unit) => Option.bind (loopN (m30_l1 a0) FUEL 0) (Sum.elim (fun (o4 : Unit) => Option.bind (loopN (m30_l2 a0) FUEL 0) (Sum.elim (fun (o5 : Unit) => some true) (fun o => some o))) (fun o => some o))) (fun o => some o))))
set_option maxRecDepth 100000 in
set_option maxHeartbeats 2000000 in
theorem m30_ok (a0 : Dcl) (r : Bool) (h0 : m30 a0 = some r) : Fun Try.prog 30 [.agg (cE a0)] (resOf [.one (dB r)]) := by
  unfold m30 at h0
  refine Fun.of_bodyM 9 124 Try.func30 rfl en_30 rfl (lb rfl) (fun S w => ?_)
  simp only [entry]
  refine XC.seq <| XC.region <| XL.put rfl rfl (lb rfl) (OpOK.box rfl) <| rA rfl rfl rfl <| XL.nil <| XQ.seq <| XC.seq <| XC.seq ?_
  refine XC.joinR (fun (v1 : Bool) => ⟨[(1, .v (.one (.ptr 0 0))), (47, .v (.one (dB v1)))], [(0, .cells 48 (cE a0))], [], 1, 124, []⟩) (fun (v1 : Bool) => (cond v1
      (some false)
      (Option.bind (loopN (m30_l0 a0) FUEL 0) (Sum.elim (fun (o3 : Unit) => Option.bind (loopN (m30_l1 a0) FUEL 0) (Sum.elim (fun (o4 : Unit) => Option.bind (loopN (m30_l2 a0) FUEL 0) (Sum.elim (fun (o5 : Unit) => some true) (fun o => some o))) (fun o => some o))) (fun o => some o)))) = some r) ?_ ?_
  ·
   refine bindK h0 (fun w1_ h1 h0 => ?_)
   refine XC.region <| rR rfl rfl rfl (RO.fieldOwn fo_48_1 rfl) <| rR rfl rfl rfl (RO.loadOwn ag_9 rfl rfl rfl) <| rR rfl rfl rfl (RO.lenS st_9 rfl) <| rR rfl rfl rfl (RO.binInt rfl rfl rfl) <| rM rfl rfl rfl ?_
   refine XL.case (d := 10) (c := (decide (200 < (a0.name.length : Int)))) rfl (fun c2 => ?_) (fun c2 => ?_)
   ·
    replace h1 := condT c2 h1
    refine XL.no rfl rfl <| XL.no rfl rfl <| XL.no rfl rfl <| XL.no rfl rfl <| rR rfl rfl rfl (RO.pickT rfl rfl) <| rM rfl rfl rfl <| XL.no rfl rfl <| XL.no rfl rfl <| XL.no rfl rfl <| XL.no rfl rfl <| rR rfl rfl rfl (RO.pickT rfl rfl) <| rM rfl rfl rfl <| XL.no rfl rfl <| XL.no rfl rfl ?_
    refine XL.no rfl rfl <| XL.no rfl rfl <| rR rfl rfl rfl (RO.pickT rfl rfl) <| rM rfl rfl rfl <| XL.no rfl rfl <| XL.no rfl rfl <| XL.no rfl rfl <| XL.no rfl rfl <| rR rfl rfl rfl (RO.pickT rfl rfl) <| rM rfl rfl rfl <| XL.no rfl rfl <| XL.no rfl rfl <| XL.no rfl rfl <| XL.no rfl rfl ?_
    refine XL.no rfl rfl <| rR rfl rfl rfl (RO.pickT rfl rfl) <| rM rfl rfl rfl <| XL.no rfl rfl <| XL.no rfl rfl <| XL.no rfl rfl <| XL.no rfl rfl <| XL.no rfl rfl <| rR rfl rfl rfl (RO.pickT rfl rfl) <| XL.nil ?_
    have e_ := Option.some.inj h1
    subst e_
    exact XQ.joinR true (stle (tR rfl (tR rfl tZ)) (hR rfl hZ) kZ rfl (Nat.zero_le _) rfl rfl rfl (bB rfl rfl bZ) rfl rfl) h0
   ·
    replace h1 := condF c2 h1
    refine rR rfl rfl rfl (RO.fieldOwn fo_48_3 rfl) <| rR rfl rfl rfl (RO.loadOwnAgg ag_42 rfl rfl rfl rfl) ?_
    refine bindK h1 (fun x3 hx3 h1 => ?_)
    refine XL.put rfl rfl (lb rfl) (OpOK.callFun (m50_ok a0.ty x3 hx3) rfl (.cons (.agg (.cons (.d _) (.cons (.d _) (.cons (.d _) (.cons (.d _) (.cons (.d _) .nil)))))) .nil)) <| rR rfl rfl rfl (RO.not rfl) <| rR rfl rfl rfl (RO.pickF rfl rfl) <| rM rfl rfl rfl ?_
    refine XL.case (d := 16) (c := (!x3)) rfl (fun c4 => ?_) (fun c4 => ?_)
    ·
     replace h1 := condT c4 h1
     refine XL.no rfl rfl <| XL.no rfl rfl <| XL.no rfl rfl <| XL.no rfl rfl <| rR rfl rfl rfl (RO.pickT rfl rfl) <| rM rfl rfl rfl <| XL.no rfl rfl <| XL.no rfl rfl <| XL.no rfl rfl <| XL.no rfl rfl <| rR rfl rfl rfl (RO.pickT rfl rfl) <| rM rfl rfl rfl <| XL.no rfl rfl <| XL.no rfl rfl ?_
     refine XL.no rfl rfl <| XL.no rfl rfl <| rR rfl rfl rfl (RO.pickT rfl rfl) <| rM rfl rfl rfl <| XL.no rfl rfl <| XL.no rfl rfl <| XL.no rfl rfl <| XL.no rfl rfl <| XL.no rfl rfl <| rR rfl rfl rfl (RO.pickT rfl rfl) <| rM rfl rfl rfl <| XL.no rfl rfl <| XL.no rfl rfl <| XL.no rfl rfl ?_
     refine XL.no rfl rfl <| XL.no rfl rfl <| rR rfl rfl rfl (RO.pickT rfl rfl) <| XL.nil ?_
     have e_ := Option.some.inj h1
     subst e_
     exact XQ.joinR true (stle (tR rfl (tR rfl tZ)) (hR rfl hZ) kZ rfl (Nat.zero_le _) rfl rfl rfl (bB rfl rfl bZ) rfl rfl) h0
    ·
     replace h1 := condF c4 h1
     refine rR rfl rfl rfl (RO.fieldOwn fo_48_4 rfl) <| rR rfl rfl rfl (RO.loadOwnAgg ag_42 rfl rfl rfl rfl) ?_
     refine bindK h1 (fun x5 hx5 h1 => ?_)
     refine XL.put rfl rfl (lb rfl) (OpOK.callFun (m50_ok a0.value x5 hx5) rfl (.cons (.agg (.cons (.d _) (.cons (.d _) (.cons (.d _) (.cons (.d _) (.cons (.d _) .nil)))))) .nil)) <| rR rfl rfl rfl (RO.not rfl) <| rR rfl rfl rfl (RO.pickF rfl rfl) <| rM rfl rfl rfl ?_
     refine XL.case (d := 22) (c := (!x5)) rfl (fun c6 => ?_) (fun c6 => ?_)
     ·
      replace h1 := condT c6 h1
      refine XL.no rfl rfl <| XL.no rfl rfl <| XL.no rfl rfl <| XL.no rfl rfl <| rR rfl rfl rfl (RO.pickT rfl rfl) <| rM rfl rfl rfl <| XL.no rfl rfl <| XL.no rfl rfl <| XL.no rfl rfl <| XL.no rfl rfl <| rR rfl rfl rfl (RO.pickT rfl rfl) <| rM rfl rfl rfl <| XL.no rfl rfl <| XL.no rfl rfl ?_
      refine XL.no rfl rfl <| XL.no rfl rfl <| XL.no rfl rfl <| rR rfl rfl rfl (RO.pickT rfl rfl) <| rM rfl rfl rfl <| XL.no rfl rfl <| XL.no rfl rfl <| XL.no rfl rfl <| XL.no rfl rfl <| XL.no rfl rfl <| rR rfl rfl rfl (RO.pickT rfl rfl) <| XL.nil ?_
      have e_ := Option.some.inj h1
      subst e_
      exact XQ.joinR true (stle (tR rfl (tR rfl tZ)) (hR rfl hZ) kZ rfl (Nat.zero_le _) rfl rfl rfl (bB rfl rfl bZ) rfl rfl) h0
     ·
      replace h1 := condF c6 h1
      refine rR rfl rfl rfl (RO.fieldOwn fo_48_6 rfl) <| rR rfl rfl rfl (RO.loadOwn ag_43 rfl rfl rfl) <| rR rfl rfl rfl (RO.lenE (α := Ctr) sl_43 rfl (.d _)) <| rR rfl rfl rfl (RO.binInt rfl rfl rfl) <| rR rfl rfl rfl (RO.pickF rfl rfl) <| rM rfl rfl rfl ?_
      refine XL.case (d := 28) (c := (decide (40 < (a0.ctors.length : Int)))) rfl (fun c7 => ?_) (fun c7 => ?_)
      ·
       replace h1 := condT c7 h1
       refine XL.no rfl rfl <| XL.no rfl rfl <| XL.no rfl rfl <| XL.no rfl rfl <| rR rfl rfl rfl (RO.pickT rfl rfl) <| rM rfl rfl rfl <| XL.no rfl rfl <| XL.no rfl rfl <| XL.no rfl rfl <| XL.no rfl rfl <| XL.no rfl rfl <| rR rfl rfl rfl (RO.pickT rfl rfl) <| rM rfl rfl rfl <| XL.no rfl rfl ?_
       refine XL.no rfl rfl <| XL.no rfl rfl <| XL.no rfl rfl <| XL.no rfl rfl <| rR rfl rfl rfl (RO.pickT rfl rfl) <| XL.nil ?_
       have e_ := Option.some.inj h1
       subst e_
       exact XQ.joinR true (stle (tR rfl (tR rfl tZ)) (hR rfl hZ) kZ rfl (Nat.zero_le _) rfl rfl rfl (bB rfl rfl bZ) rfl rfl) h0
      ·
       replace h1 := condF c7 h1
       refine rR rfl rfl rfl (RO.fieldOwn fo_48_8 rfl) <| rR rfl rfl rfl (RO.loadOwn ag_46 rfl rfl rfl) <| rR rfl rfl rfl (RO.lenE (α := Fn) sl_46 rfl (.d _)) <| rR rfl rfl rfl (RO.binInt rfl rfl rfl) <| rR rfl rfl rfl (RO.pickF rfl rfl) <| rM rfl rfl rfl ?_
       refine XL.case (d := 34) (c := (decide (12 < (a0.funs.length : Int)))) rfl (fun c8 => ?_) (fun c8 => ?_)
       ·
        replace h1 := condT c8 h1
        refine XL.no rfl rfl <| XL.no rfl rfl <| XL.no rfl rfl <| XL.no rfl rfl <| XL.no rfl rfl <| rR rfl rfl rfl (RO.pickT rfl rfl) <| rM rfl rfl rfl <| XL.no rfl rfl <| XL.no rfl rfl <| XL.no rfl rfl <| XL.no rfl rfl <| XL.no rfl rfl <| rR rfl rfl rfl (RO.pickT rfl rfl) <| XL.nil ?_
        have e_ := Option.some.inj h1
        subst e_
        exact XQ.joinR true (stle (tR rfl (tR rfl tZ)) (hR rfl hZ) kZ rfl (Nat.zero_le _) rfl rfl rfl (bB rfl rfl bZ) rfl rfl) h0
       ·
        replace h1 := condF c8 h1
        refine rR rfl rfl rfl (RO.fieldOwn fo_48_7 rfl) <| rR rfl rfl rfl (RO.fieldOwn fo_45_1 rfl) <| rR rfl rfl rfl (RO.loadOwnAgg ag_42 rfl rfl rfl rfl) ?_
        refine bindK h1 (fun x9 hx9 h1 => ?_)
        refine XL.put rfl rfl (lb rfl) (OpOK.callFun (m50_ok a0.rcr.ty x9 hx9) rfl (.cons (.agg (.cons (.d _) (.cons (.d _) (.cons (.d _) (.cons (.d _) (.cons (.d _) .nil)))))) .nil)) <| rR rfl rfl rfl (RO.not rfl) <| rR rfl rfl rfl (RO.pickF rfl rfl) <| rM rfl rfl rfl ?_
        refine XL.case (d := 41) (c := (!x9)) rfl (fun c10 => ?_) (fun c10 => ?_)
        ·
         replace h1 := condT c10 h1
         refine XL.no rfl rfl <| XL.no rfl rfl <| XL.no rfl rfl <| XL.no rfl rfl <| XL.no rfl rfl <| rR rfl rfl rfl (RO.pickT rfl rfl) <| XL.nil ?_
         have e_ := Option.some.inj h1
         subst e_
         exact XQ.joinR true (stle (tR rfl (tR rfl tZ)) (hR rfl hZ) kZ rfl (Nat.zero_le _) rfl rfl rfl (bB rfl rfl bZ) rfl rfl) h0
        ·
         replace h1 := condF c10 h1
         refine rR rfl rfl rfl (RO.fieldOwn fo_48_7 rfl) <| rR rfl rfl rfl (RO.fieldOwn fo_45_2 rfl) <| rR rfl rfl rfl (RO.loadOwn ag_40 rfl rfl rfl) <| rR rfl rfl rfl (RO.lenE (α := Tm) sl_40 rfl (.d _)) <| rR rfl rfl rfl (RO.binInt rfl rfl rfl) <| rR rfl rfl rfl (RO.pickF rfl rfl) <| XL.nil ?_
         have e_ := Option.some.inj h1
         subst e_
         exact XQ.joinR (decide (40 < (a0.rcr.rules.length : Int))) (stle (tR rfl (tR rfl tZ)) (hR rfl hZ) kZ rfl (Nat.zero_le _) rfl rfl rfl (bB rfl rfl bZ) rfl rfl) h0
  ·
   intro v1 h0
   refine XQ.seq ?_
   refine XC.cond (b := v1) rfl (fun c11 => ?_) (fun c11 => ?_)
   ·
    replace h0 := condT c11 h0
    refine XC.seq <| XC.region <| rA rfl rfl rfl <| XL.nil <| XQ.seq <| XC.ret ?_
    have e_ := Option.some.inj h0
    subst e_
    exact XQ.retF (fun _ _ h => h) rfl (RAs.tmp rfl .nil) (.cons (.one (.d _)) .nil)
   ·
    replace h0 := condF c11 h0
    refine XC.skip <| XQ.seq <| XC.seq <| XC.seq <| XC.region <| rA rfl rfl rfl <| XL.nil <| XQ.seq <| XC.block ?_
    refine XC.joinX 0 (fun (o12 : Unit) => ⟨[(1, .v (.one (.ptr 0 0)))], [(0, .cells 48 (cE a0))], [], 1, 124, []⟩) (fun (o12 : Unit) => (Option.bind (loopN (m30_l1 a0) FUEL 0) (Sum.elim (fun (o13 : Unit) => Option.bind (loopN (m30_l2 a0) FUEL 0) (Sum.elim (fun (o14 : Unit) => some true) (fun o => some o))) (fun o => some o))) = some r) ?_ ?_
    ·
     refine bindK h0 (fun o13 hl1 h0 => ?_)
     refine XC.loopM (m30_l0 a0) (fun s1 => ⟨[(1, .v (.one (.ptr 0 0))), (3, .v (.one (dI s1)))], [(0, .cells 48 (cE a0))], [], 1, 124, []⟩) 0 o13 (stle (tR rfl (tR rfl tZ)) (hR rfl hZ) kZ rfl (Nat.zero_le _) rfl rfl rfl (bB rfl rfl bZ) rfl rfl) hl1 (fun s1 n1 oo1 h1 ho1 => ?_)
     unfold m30_l0 at h1
     refine XC.seq <| XC.seq <| XC.region <| rM rfl rfl rfl <| rR rfl rfl rfl (RO.fieldOwn fo_48_6 rfl) <| rR rfl rfl rfl (RO.loadOwn ag_43 rfl rfl rfl) <| rR rfl rfl rfl (RO.lenE (α := Ctr) sl_43 rfl (.d _)) <| rR rfl rfl rfl (RO.binInt rfl rfl rfl) <| XL.nil <| XQ.seq ?_
     refine XC.cond (b := (decide (s1 < (a0.ctors.length : Int)))) rfl (fun c14 => ?_) (fun c14 => ?_)
     ·
      replace h1 := condT c14 h1
      refine XC.skip <| XQ.seq <| XC.seq <| XC.block <| XC.seq ?_
      refine XC.joinR (fun (v15 : Bool) => ⟨[(1, .v (.one (.ptr 0 0))), (3, .v (.one (dI s1))), (72, .v (.one (dB v15)))], [(0, .cells 48 (cE a0))], [], 1, 124, []⟩) (fun (v15 : Bool) => (cond v15
          (some (.done (.inr false)))
          (some (.next (w64 (s1 + 1))))) = some oo1) ?_ ?_
      ·
       refine bindK h1 (fun w2_ h2 h1 => ?_)
       refine XC.region <| rR rfl rfl rfl (RO.fieldOwn fo_48_6 rfl) <| rR rfl rfl rfl (RO.loadOwn ag_43 rfl rfl rfl) <| rM rfl rfl rfl ?_
       refine bindK h2 (fun x16 hx16 h2 => ?_)
       refine rR rfl rfl rfl (RO.indexE (α := Ctr) sl_43 rfl (.d _) rfl hx16) <| rR rfl rfl rfl (RO.fieldPel fo_84_0 rfl) <| rR rfl rfl rfl (RO.loadPel ag_9 rfl rfl) <| rR rfl rfl rfl (RO.lenS st_9 rfl) <| rR rfl rfl rfl (RO.binInt rfl rfl rfl) <| rM rfl rfl rfl ?_
       refine XL.case (d := 63) (c := (decide (200 < (x16.name.length : Int)))) rfl (fun c17 => ?_) (fun c17 => ?_)
       ·
        replace h2 := condT c17 h2
        refine XL.no rfl rfl <| XL.no rfl rfl <| XL.no rfl rfl <| XL.no rfl rfl <| XL.no rfl rfl <| XL.no rfl rfl <| XL.no rfl rfl <| XL.no rfl rfl <| rR rfl rfl rfl (RO.pickT rfl rfl) <| XL.nil ?_
        have e_ := Option.some.inj h2
        subst e_
        exact XQ.joinR true (stle (tR rfl (tR rfl (tR rfl tZ))) (hR rfl hZ) kZ rfl (Nat.zero_le _) rfl rfl rfl (bB rfl rfl bZ) rfl rfl) h1
       ·
        replace h2 := condF c17 h2
        refine rR rfl rfl rfl (RO.fieldOwn fo_48_6 rfl) <| rR rfl rfl rfl (RO.loadOwn ag_43 rfl rfl rfl) <| rM rfl rfl rfl ?_
        refine bindK h2 (fun x18 hx18 h2 => ?_)
        refine rR rfl rfl rfl (RO.indexE (α := Ctr) sl_43 rfl (.d _) rfl hx18) <| rR rfl rfl rfl (RO.fieldPel fo_84_1 rfl) <| rR rfl rfl rfl (RO.loadPelAgg ag_42 rfl rfl rfl) ?_
        refine bindK h2 (fun x19 hx19 h2 => ?_)
        refine XL.put rfl rfl (lb rfl) (OpOK.callFun (m50_ok x18.ty x19 hx19) rfl (.cons (.agg (.cons (.d _) (.cons (.d _) (.cons (.d _) (.cons (.d _) (.cons (.d _) .nil)))))) .nil)) <| rR rfl rfl rfl (RO.not rfl) <| rR rfl rfl rfl (RO.pickF rfl rfl) <| XL.nil ?_
        have e_ := Option.some.inj h2
        subst e_
        exact XQ.joinR (!x19) (stle (tR rfl (tR rfl (tR rfl tZ))) (hR rfl hZ) kZ rfl (Nat.zero_le _) rfl rfl rfl (bB rfl rfl bZ) rfl rfl) h1
      ·
       intro v15 h1
       refine XQ.seq ?_
       refine XC.cond (b := v15) rfl (fun c20 => ?_) (fun c20 => ?_)
       ·
        replace h1 := condT c20 h1
        refine XC.seq <| XC.region <| rA rfl rfl rfl <| XL.nil <| XQ.seq <| XC.ret ?_
        have e_ := Option.some.inj h1
        subst e_
        have e_ : _ = _ := ho1
        subst e_
        try dsimp only [Sum.elim_inl, Sum.elim_inr] at h0
        have e_ := Option.some.inj h0
        subst e_
        exact XQ.retF (fun _ _ h => h) rfl (RAs.tmp rfl .nil) (.cons (.one (.d _)) .nil)
       ·
        replace h1 := condF c20 h1
        refine XC.skip <| XQ.inBlock <| XQ.seq <| XC.region <| rM rfl rfl rfl <| rR rfl rfl rfl (RO.binInt rfl rfl rfl) <| rA rfl rfl rfl <| XL.nil ?_
        have e_ := Option.some.inj h1
        subst e_
        refine XQ.nextM (w64 (s1 + 1)) (stle (tR rfl (tR rfl tZ)) (hR rfl hZ) kZ rfl (Nat.zero_le _) rfl rfl rfl (bB rfl rfl bZ) rfl rfl) ho1
     ·
      replace h1 := condF c14 h1
      refine XC.exit <| XQ.thenE <| XQ.thenE ?_
      have e_ := Option.some.inj h1
      subst e_
      have e_ : _ = _ := ho1
      subst e_
      exact XQ.joinX () (stle (tR rfl tZ) (hR rfl hZ) kZ rfl (Nat.zero_le _) rfl rfl rfl (bB rfl rfl bZ) rfl rfl) h0
    ·
     intro o12 h0
     refine XQ.blockX <| XQ.seq <| XC.seq <| XC.seq <| XC.region <| rA rfl rfl rfl <| XL.nil <| XQ.seq <| XC.block ?_
     refine XC.joinX 2 (fun (o21 : Unit) => ⟨[(1, .v (.one (.ptr 0 0)))], [(0, .cells 48 (cE a0))], [], 1, 124, []⟩) (fun (o21 : Unit) => (Option.bind (loopN (m30_l2 a0) FUEL 0) (Sum.elim (fun (o22 : Unit) => some true) (fun o => some o))) = some r) ?_ ?_
     ·
      refine bindK h0 (fun o22 hl1 h0 => ?_)
      refine XC.loopM (m30_l1 a0) (fun s1 => ⟨[(1, .v (.one (.ptr 0 0))), (4, .v (.one (dI s1)))], [(0, .cells 48 (cE a0))], [], 1, 124, []⟩) 0 o22 (stle (tR rfl (tR rfl tZ)) (hR rfl hZ) kZ rfl (Nat.zero_le _) rfl rfl rfl (bB rfl rfl bZ) rfl rfl) hl1 (fun s1 n1 oo1 h1 ho1 => ?_)
      unfold m30_l1 at h1
      refine XC.seq <| XC.seq <| XC.region <| rM rfl rfl rfl <| rR rfl rfl rfl (RO.fieldOwn fo_48_7 rfl) <| rR rfl rfl rfl (RO.fieldOwn fo_45_2 rfl) <| rR rfl rfl rfl (RO.loadOwn ag_40 rfl rfl rfl) <| rR rfl rfl rfl (RO.lenE (α := Tm) sl_40 rfl (.d _)) <| rR rfl rfl rfl (RO.binInt rfl rfl rfl) <| XL.nil <| XQ.seq ?_
      refine XC.cond (b := (decide (s1 < (a0.rcr.rules.length : Int)))) rfl (fun c23 => ?_) (fun c23 => ?_)
      ·
       replace h1 := condT c23 h1
       refine XC.skip <| XQ.seq <| XC.seq <| XC.block <| XC.seq <| XC.region <| rR rfl rfl rfl (RO.fieldOwn fo_48_7 rfl) <| rR rfl rfl rfl (RO.fieldOwn fo_45_2 rfl) <| rR rfl rfl rfl (RO.loadOwn ag_40 rfl rfl rfl) <| rM rfl rfl rfl ?_
       refine bindK h1 (fun x24 hx24 h1 => ?_)
       refine rR rfl rfl rfl (RO.indexE (α := Tm) sl_40 rfl (.d _) rfl hx24) <| rR rfl rfl rfl (RO.loadPelCE (x24 : Tm) ag_42 rfl) ?_
       refine bindK h1 (fun x25 hx25 h1 => ?_)
       refine XL.put rfl rfl (lb rfl) (OpOK.callFun (m50_ok x24 x25 hx25) rfl (.cons (.agg (.cons (.d _) (.cons (.d _) (.cons (.d _) (.cons (.d _) (.cons (.d _) .nil)))))) .nil)) <| rR rfl rfl rfl (RO.not rfl) <| XL.nil <| XQ.seq ?_
       refine XC.cond (b := (!x25)) rfl (fun c26 => ?_) (fun c26 => ?_)
       ·
        replace h1 := condT c26 h1
        refine XC.seq <| XC.region <| rA rfl rfl rfl <| XL.nil <| XQ.seq <| XC.ret ?_
        have e_ := Option.some.inj h1
        subst e_
        have e_ : _ = _ := ho1
        subst e_
        try dsimp only [Sum.elim_inl, Sum.elim_inr] at h0
        have e_ := Option.some.inj h0
        subst e_
        exact XQ.retF (fun _ _ h => h) rfl (RAs.tmp rfl .nil) (.cons (.one (.d _)) .nil)
       ·
        replace h1 := condF c26 h1
        refine XC.skip <| XQ.inBlock <| XQ.seq <| XC.region <| rM rfl rfl rfl <| rR rfl rfl rfl (RO.binInt rfl rfl rfl) <| rA rfl rfl rfl <| XL.nil ?_
        have e_ := Option.some.inj h1
        subst e_
        refine XQ.nextM (w64 (s1 + 1)) (stle (tR rfl (tR rfl tZ)) (hR rfl hZ) kZ rfl (Nat.zero_le _) rfl rfl rfl (bB rfl rfl bZ) rfl rfl) ho1
      ·
       replace h1 := condF c23 h1
       refine XC.exit <| XQ.thenE <| XQ.thenE ?_
       have e_ := Option.some.inj h1
       subst e_
       have e_ : _ = _ := ho1
       subst e_
       exact XQ.joinX () (stle (tR rfl tZ) (hR rfl hZ) kZ rfl (Nat.zero_le _) rfl rfl rfl (bB rfl rfl bZ) rfl rfl) h0
     ·
      intro o21 h0
      refine XQ.blockX <| XQ.seq <| XC.seq <| XC.seq <| XC.region <| rA rfl rfl rfl <| XL.nil <| XQ.seq <| XC.block ?_
      refine XC.joinX 4 (fun (o27 : Unit) => ⟨[], [(0, .cells 48 (cE a0))], [], 1, 124, []⟩) (fun (o27 : Unit) => (some true) = some r) ?_ ?_
      ·
       refine bindK h0 (fun o28 hl1 h0 => ?_)
       refine XC.loopM (m30_l2 a0) (fun s1 => ⟨[(1, .v (.one (.ptr 0 0))), (5, .v (.one (dI s1)))], [(0, .cells 48 (cE a0))], [], 1, 124, []⟩) 0 o28 (stle (tR rfl (tR rfl tZ)) (hR rfl hZ) kZ rfl (Nat.zero_le _) rfl rfl rfl (bB rfl rfl bZ) rfl rfl) hl1 (fun s1 n1 oo1 h1 ho1 => ?_)
       unfold m30_l2 at h1
       refine XC.seq <| XC.seq <| XC.region <| rM rfl rfl rfl <| rR rfl rfl rfl (RO.fieldOwn fo_48_8 rfl) <| rR rfl rfl rfl (RO.loadOwn ag_46 rfl rfl rfl) <| rR rfl rfl rfl (RO.lenE (α := Fn) sl_46 rfl (.d _)) <| rR rfl rfl rfl (RO.binInt rfl rfl rfl) <| XL.nil <| XQ.seq ?_
       refine XC.cond (b := (decide (s1 < (a0.funs.length : Int)))) rfl (fun c29 => ?_) (fun c29 => ?_)
       ·
        replace h1 := condT c29 h1
        refine XC.skip <| XQ.seq <| XC.seq <| XC.block <| XC.seq ?_
        refine XC.joinR (fun (v30 : Bool) => ⟨[(1, .v (.one (.ptr 0 0))), (5, .v (.one (dI s1))), (123, .v (.one (dB v30)))], [(0, .cells 48 (cE a0))], [], 1, 124, []⟩) (fun (v30 : Bool) => (cond v30
            (some (.done (.inr false)))
            (some (.next (w64 (s1 + 1))))) = some oo1) ?_ ?_
        ·
         refine bindK h1 (fun w2_ h2 h1 => ?_)
         refine XC.region <| rR rfl rfl rfl (RO.fieldOwn fo_48_8 rfl) <| rR rfl rfl rfl (RO.loadOwn ag_46 rfl rfl rfl) <| rM rfl rfl rfl ?_
         refine bindK h2 (fun x31 hx31 h2 => ?_)
         refine rR rfl rfl rfl (RO.indexE (α := Fn) sl_46 rfl (.d _) rfl hx31) <| rR rfl rfl rfl (RO.fieldPel fo_89_0 rfl) <| rR rfl rfl rfl (RO.loadPel ag_9 rfl rfl) <| rR rfl rfl rfl (RO.lenS st_9 rfl) <| rR rfl rfl rfl (RO.binInt rfl rfl rfl) <| rM rfl rfl rfl ?_
         refine XL.case (d := 104) (c := (decide (200 < (x31.name.length : Int)))) rfl (fun c32 => ?_) (fun c32 => ?_)
         ·
          replace h2 := condT c32 h2
          refine XL.no rfl rfl <| XL.no rfl rfl <| XL.no rfl rfl <| XL.no rfl rfl <| XL.no rfl rfl <| XL.no rfl rfl <| XL.no rfl rfl <| XL.no rfl rfl <| rR rfl rfl rfl (RO.pickT rfl rfl) <| rM rfl rfl rfl <| XL.no rfl rfl <| XL.no rfl rfl <| XL.no rfl rfl <| XL.no rfl rfl ?_
          refine XL.no rfl rfl <| XL.no rfl rfl <| XL.no rfl rfl <| XL.no rfl rfl <| rR rfl rfl rfl (RO.pickT rfl rfl) <| XL.nil ?_
          have e_ := Option.some.inj h2
          subst e_
          exact XQ.joinR true (stle (tR rfl (tR rfl (tR rfl tZ))) (hR rfl hZ) kZ rfl (Nat.zero_le _) rfl rfl rfl (bB rfl rfl bZ) rfl rfl) h1
         ·
          replace h2 := condF c32 h2
          refine rR rfl rfl rfl (RO.fieldOwn fo_48_8 rfl) <| rR rfl rfl rfl (RO.loadOwn ag_46 rfl rfl rfl) <| rM rfl rfl rfl ?_
          refine bindK h2 (fun x33 hx33 h2 => ?_)
          refine rR rfl rfl rfl (RO.indexE (α := Fn) sl_46 rfl (.d _) rfl hx33) <| rR rfl rfl rfl (RO.fieldPel fo_89_1 rfl) <| rR rfl rfl rfl (RO.loadPelAgg ag_42 rfl rfl rfl) ?_
          refine bindK h2 (fun x34 hx34 h2 => ?_)
          refine XL.put rfl rfl (lb rfl) (OpOK.callFun (m50_ok x33.ty x34 hx34) rfl (.cons (.agg (.cons (.d _) (.cons (.d _) (.cons (.d _) (.cons (.d _) (.cons (.d _) .nil)))))) .nil)) <| rR rfl rfl rfl (RO.not rfl) <| rR rfl rfl rfl (RO.pickF rfl rfl) <| rM rfl rfl rfl ?_
          refine XL.case (d := 114) (c := (!x34)) rfl (fun c35 => ?_) (fun c35 => ?_)
          ·
           replace h2 := condT c35 h2
           refine XL.no rfl rfl <| XL.no rfl rfl <| XL.no rfl rfl <| XL.no rfl rfl <| XL.no rfl rfl <| XL.no rfl rfl <| XL.no rfl rfl <| XL.no rfl rfl <| rR rfl rfl rfl (RO.pickT rfl rfl) <| XL.nil ?_
           have e_ := Option.some.inj h2
           subst e_
           exact XQ.joinR true (stle (tR rfl (tR rfl (tR rfl tZ))) (hR rfl hZ) kZ rfl (Nat.zero_le _) rfl rfl rfl (bB rfl rfl bZ) rfl rfl) h1
          ·
           replace h2 := condF c35 h2
           refine rR rfl rfl rfl (RO.fieldOwn fo_48_8 rfl) <| rR rfl rfl rfl (RO.loadOwn ag_46 rfl rfl rfl) <| rM rfl rfl rfl ?_
           refine bindK h2 (fun x36 hx36 h2 => ?_)
           refine rR rfl rfl rfl (RO.indexE (α := Fn) sl_46 rfl (.d _) rfl hx36) <| rR rfl rfl rfl (RO.fieldPel fo_89_3 rfl) <| rR rfl rfl rfl (RO.loadPelAgg ag_87 rfl rfl rfl) ?_
           refine bindK h2 (fun x37 hx37 h2 => ?_)
           refine XL.put rfl rfl (lb rfl) (OpOK.callFun (m51_ok x36.tree 0 x37 hx37) rfl (.cons (.agg (.cons (.d _) (.cons (.d _) (.cons (.d _) (.cons (.d _) (.cons (.d _) (.cons (.d _) (.cons (.d _) (.cons (.d _) .nil))))))))) (.cons (.one (.d _)) .nil))) <| rR rfl rfl rfl (RO.not rfl) <| rR rfl rfl rfl (RO.pickF rfl rfl) <| XL.nil ?_
           have e_ := Option.some.inj h2
           subst e_
           exact XQ.joinR (!x37) (stle (tR rfl (tR rfl (tR rfl tZ))) (hR rfl hZ) kZ rfl (Nat.zero_le _) rfl rfl rfl (bB rfl rfl bZ) rfl rfl) h1
        ·
         intro v30 h1
         refine XQ.seq ?_
         refine XC.cond (b := v30) rfl (fun c38 => ?_) (fun c38 => ?_)
         ·
          replace h1 := condT c38 h1
          refine XC.seq <| XC.region <| rA rfl rfl rfl <| XL.nil <| XQ.seq <| XC.ret ?_
          have e_ := Option.some.inj h1
          subst e_
          have e_ : _ = _ := ho1
          subst e_
          try dsimp only [Sum.elim_inl, Sum.elim_inr] at h0
          have e_ := Option.some.inj h0
          subst e_
          exact XQ.retF (fun _ _ h => h) rfl (RAs.tmp rfl .nil) (.cons (.one (.d _)) .nil)
         ·
          replace h1 := condF c38 h1
          refine XC.skip <| XQ.inBlock <| XQ.seq <| XC.region <| rM rfl rfl rfl <| rR rfl rfl rfl (RO.binInt rfl rfl rfl) <| rA rfl rfl rfl <| XL.nil ?_
          have e_ := Option.some.inj h1
          subst e_
          refine XQ.nextM (w64 (s1 + 1)) (stle (tR rfl (tR rfl tZ)) (hR rfl hZ) kZ rfl (Nat.zero_le _) rfl rfl rfl (bB rfl rfl bZ) rfl rfl) ho1
       ·
        replace h1 := condF c29 h1
        refine XC.exit <| XQ.thenE <| XQ.thenE ?_
        have e_ := Option.some.inj h1
        subst e_
        have e_ : _ = _ := ho1
        subst e_
        exact XQ.joinX () (stle tZ (hR rfl hZ) kZ rfl (Nat.zero_le _) rfl rfl rfl (bB rfl rfl bZ) rfl rfl) h0
      ·
       intro o27 h0
       refine XQ.blockX <| XQ.seq <| XC.seq <| XC.region <| rA rfl rfl rfl <| XL.nil <| XQ.seq <| XC.ret ?_
       have e_ := Option.some.inj h0
       subst e_
       exact XQ.retF (fun _ _ h => h) rfl (RAs.tmp rfl .nil) (.cons (.one (.d _)) .nil)
def m9_l0 (a0 : List Dcl) (s1 : Int) : Option (LO Int (Unit ⊕ Bool)) :=
  Option.bind (cond (decide (s1 < (a0.length : Int)))
    (some (decide (s1 < 80)))
    (some false)) (fun (v2 : Bool) => cond v2
    (Option.bind (idx a0 s1) fun (x4 : Dcl) =>
  Option.bind (m30 x4) fun (x5 : Bool) =>
  cond (!x5)
    (some (.done (.inr false)))
    (some (.next (w64 (s1 + 1)))))
    (some (.done (.inl ()))))
def m9 (a0 : List Dcl) : Option Bool :=
  Option.bind (loopN (m9_l0 a0) FUEL 0) (Sum.elim (fun (o1 : Unit) => some (decide ((a0.length : Int) ≤ 70))) (fun o => some o))
set_option maxRecDepth 100000 in
set_option maxHeartbeats 2000000 in
theorem m9_ok (a0 : List Dcl) (r : Bool) (h0 : m9 a0 = some r) : Fun Try.prog 9 [.one (dS a0)] (resOf [.one (dB r)]) := by
  unfold m9 at h0
  refine Fun.of_bodyM 9 23 Try.func9 rfl en_9 rfl (lb rfl) (fun S w => ?_)
  simp only [entry]
  refine XC.seq <| XC.region <| rA rfl rfl rfl <| XL.nil <| XQ.seq <| XC.seq <| XC.seq <| XC.region <| rA rfl rfl rfl <| XL.nil <| XQ.seq <| XC.block ?_
  refine XC.joinX 0 (fun (o1 : Unit) => ⟨[(0, .v (.one (dS a0)))], [], [], 0, 23, []⟩) (fun (o1 : Unit) => (some (decide ((a0.length : Int) ≤ 70))) = some r) ?_ ?_
  ·
   refine bindK h0 (fun o2 hl1 h0 => ?_)
   refine XC.loopM (m9_l0 a0) (fun s1 => ⟨[(0, .v (.one (dS a0))), (3, .v (.one (dI s1)))], [], [], 0, 23, []⟩) 0 o2 (stle (tR rfl (tR rfl tZ)) hZ kZ rfl (Nat.zero_le _) rfl rfl rfl bZ rfl rfl) hl1 (fun s1 n1 oo1 h1 ho1 => ?_)
   unfold m9_l0 at h1
   refine XC.seq <| XC.seq ?_
   refine XC.joinR (fun (v3 : Bool) => ⟨[(0, .v (.one (dS a0))), (3, .v (.one (dI s1))), (11, .v (.one (dB v3)))], [], [], 0, 23, []⟩) (fun (v3 : Bool) => (cond v3
       (Option.bind (idx a0 s1) fun (x5 : Dcl) =>
     Option.bind (m30 x5) fun (x6 : Bool) =>
     cond (!x6)
       (some (.done (.inr false)))
       (some (.next (w64 (s1 + 1)))))
       (some (.done (.inl ())))) = some oo1) ?_ ?_
   ·
    refine bindK h1 (fun w2_ h2 h1 => ?_)
    refine XC.region <| rM rfl rfl rfl <| rM rfl rfl rfl <| rR rfl rfl rfl (RO.lenE (α := Dcl) sl_22 rfl (.d _)) <| rR rfl rfl rfl (RO.binInt rfl rfl rfl) <| rM rfl rfl rfl ?_
    refine XL.case (d := 8) (c := (decide (s1 < (a0.length : Int)))) rfl (fun c4 => ?_) (fun c4 => ?_)
    ·
     replace h2 := condT c4 h2
     refine rM rfl rfl rfl <| rR rfl rfl rfl (RO.binInt rfl rfl rfl) <| rR rfl rfl rfl (RO.pickT rfl rfl) <| XL.nil ?_
     have e_ := Option.some.inj h2
     subst e_
     exact XQ.joinR (decide (s1 < 80)) (stle (tR rfl (tR rfl (tR rfl tZ))) hZ kZ rfl (Nat.zero_le _) rfl rfl rfl bZ rfl rfl) h1
    ·
     replace h2 := condF c4 h2
     refine XL.no rfl rfl <| XL.no rfl rfl <| rR rfl rfl rfl (RO.pickF rfl rfl) <| XL.nil ?_
     have e_ := Option.some.inj h2
     subst e_
     exact XQ.joinR false (stle (tR rfl (tR rfl (tR rfl tZ))) hZ kZ rfl (Nat.zero_le _) rfl rfl rfl bZ rfl rfl) h1
   ·
    intro v3 h1
    refine XQ.seq ?_
    refine XC.cond (b := v3) rfl (fun c5 => ?_) (fun c5 => ?_)
    ·
     replace h1 := condT c5 h1
     refine XC.skip <| XQ.seq <| XC.seq <| XC.block <| XC.seq <| XC.region <| rM rfl rfl rfl <| rM rfl rfl rfl ?_
     refine bindK h1 (fun x6 hx6 h1 => ?_)
     refine rR rfl rfl rfl (RO.indexE (α := Dcl) sl_22 rfl (.d _) rfl hx6) <| rR rfl rfl rfl (RO.loadPelCE (x6 : Dcl) ag_48 rfl) ?_
     refine bindK h1 (fun x7 hx7 h1 => ?_)
     refine XL.put rfl rfl (lb rfl) (OpOK.callFun (m30_ok x6 x7 hx7) rfl (.cons (.agg (.cons (.d _) (.cons (.d _) (.cons (.d _) (.cons (.d _) (.cons (.d _) (.cons (.d _) (.cons (.d _) (.cons (.d _) (.cons (.d _) (.cons (.d _) (.cons (.d _) (.cons (.d _) (.cons (.d _) (.cons (.d _) (.cons (.d _) (.cons (.d _) (.cons (.d _) (.cons (.d _) (.cons (.d _) (.cons (.d _) (.cons (.d _) (.cons (.d _) (.cons (.d _) .nil)))))))))))))))))))))))) .nil)) <| rR rfl rfl rfl (RO.not rfl) <| XL.nil <| XQ.seq ?_
     refine XC.cond (b := (!x7)) rfl (fun c8 => ?_) (fun c8 => ?_)
     ·
      replace h1 := condT c8 h1
      refine XC.seq <| XC.region <| rA rfl rfl rfl <| XL.nil <| XQ.seq <| XC.ret ?_
      have e_ := Option.some.inj h1
      subst e_
      have e_ : _ = _ := ho1
      subst e_
      try dsimp only [Sum.elim_inl, Sum.elim_inr] at h0
      have e_ := Option.some.inj h0
      subst e_
      exact XQ.retF (fun _ _ h => h) rfl (RAs.tmp rfl .nil) (.cons (.one (.d _)) .nil)
     ·
      replace h1 := condF c8 h1
      refine XC.skip <| XQ.inBlock <| XQ.seq <| XC.region <| rM rfl rfl rfl <| rR rfl rfl rfl (RO.binInt rfl rfl rfl) <| rA rfl rfl rfl <| XL.nil ?_
      have e_ := Option.some.inj h1
      subst e_
      refine XQ.nextM (w64 (s1 + 1)) (stle (tR rfl (tR rfl tZ)) hZ kZ rfl (Nat.zero_le _) rfl rfl rfl bZ rfl rfl) ho1
    ·
     replace h1 := condF c5 h1
     refine XC.exit <| XQ.thenE <| XQ.thenE ?_
     have e_ := Option.some.inj h1
     subst e_
     have e_ : _ = _ := ho1
     subst e_
     exact XQ.joinX () (stle (tR rfl tZ) hZ kZ rfl (Nat.zero_le _) rfl rfl rfl bZ rfl rfl) h0
  ·
   intro o1 h0
   refine XQ.blockX <| XQ.seq <| XC.seq <| XC.region <| rM rfl rfl rfl <| rR rfl rfl rfl (RO.lenE (α := Dcl) sl_22 rfl (.d _)) <| rR rfl rfl rfl (RO.binInt rfl rfl rfl) <| rA rfl rfl rfl <| XL.nil <| XQ.seq <| XC.ret ?_
   have e_ := Option.some.inj h0
   subst e_
   exact XQ.retF (fun _ _ h => h) rfl (RAs.tmp rfl .nil) (.cons (.one (.d _)) .nil)
end Go.Proofs.Ytijcchddnnnmdaa
namespace Go.Proofs.Ytijcchddnnnmdaa
open Go.RowKit Go.Shelf
set_option linter.unusedSimpArgs false
set_option linter.unusedVariables false
theorem en_29 : Enters Try.prog 29 := enters_of Try.func29 (by kernel_rfl) rfl
def m29_l0 (a0 : List Int) (a1 : List Int) (s1 : Int) : Option (LO Int (Unit ⊕ Bool)) :=
  cond (decide (s1 < (a0.length : Int)))
    (Option.bind (idx a0 s1) fun (x4 : Int) =>
  Option.bind (idx a1 s1) fun (x5 : Int) =>
  cond (x4 != x5)
    (some (.done (.inr false)))
    (some (.next (w64 (s1 + 1)))))
    (some (.done (.inl ())))
def m29 (a0 : List Int) (a1 : List Int) : Option Bool :=
  cond ((a0.length : Int) != (a1.length : Int))
    (some false)
    (Option.bind (loopN (m29_l0 a0 a1) FUEL 0) (Sum.elim (fun (o2 : Unit) => some true) (fun o => some o)))
set_option maxRecDepth 100000 in
set_option maxHeartbeats 2000000 in
theorem m29_ok (a0 : List Int) (a1 : List Int) (r : Bool) (h0 : m29 a0 a1 = some r) : Fun Try.prog 29 [.one (dS a0), .one (dS a1)] (resOf [.one (dB r)]) := by
  unfold m29 at h0
  refine Fun.of_bodyM 9 26 Try.func29 rfl en_29 rfl (lb rfl) (fun S w => ?_)
  simp only [entry]
  refine XC.seq <| XC.region <| rA rfl rfl rfl <| XL.nil <| XQ.seq <| XC.seq <| XC.seq <| XC.region <| rM rfl rfl rfl <| rR rfl rfl rfl (RO.lenE (α := Int) sl_54 rfl (.d _)) <| rM rfl rfl rfl <| rR rfl rfl rfl (RO.lenE (α := Int) sl_54 rfl (.d _)) <| rR rfl rfl rfl (RO.binInt rfl rfl rfl) <| XL.nil ?_
  refine XQ.seq ?_
  refine XC.cond (b := ((a0.length : Int) != (a1.length : Int))) rfl (fun c1 => ?_) (fun c1 => ?_)
  ·
   replace h0 := condT c1 h0
   refine XC.seq <| XC.region <| rA rfl rfl rfl <| XL.nil <| XQ.seq <| XC.ret ?_
   have e_ := Option.some.inj h0
   subst e_
   exact XQ.retF (fun _ _ h => h) rfl (RAs.tmp rfl .nil) (.cons (.one (.d _)) .nil)
  ·
   replace h0 := condF c1 h0
   refine XC.skip <| XQ.seq <| XC.seq <| XC.seq <| XC.region <| rM rfl rfl rfl <| rR rfl rfl rfl (RO.lenE (α := Int) sl_54 rfl (.d _)) <| rM rfl rfl rfl <| XL.nil <| XQ.seq <| XC.block ?_
   refine XC.joinX 0 (fun (o2 : Unit) => ⟨[], [], [], 0, 26, []⟩) (fun (o2 : Unit) => (some true) = some r) ?_ ?_
   ·
    refine bindK h0 (fun o3 hl1 h0 => ?_)
    refine XC.loopM (m29_l0 a0 a1) (fun s1 => ⟨[(0, .v (.one (dS a0))), (1, .v (.one (dS a1))), (12, .v (.one (dI (a0.length : Int)))), (13, .v (.one (dI s1)))], [], [], 0, 26, []⟩) 0 o3 (stle (tR rfl (tR rfl (tR rfl (tR rfl tZ)))) hZ kZ rfl (Nat.zero_le _) rfl rfl rfl bZ rfl rfl) hl1 (fun s1 n1 oo1 h1 ho1 => ?_)
    unfold m29_l0 at h1
    refine XC.seq <| XC.region <| rR rfl rfl rfl (RO.binInt rfl rfl rfl) <| XL.nil <| XQ.seq <| XC.seq ?_
    refine XC.cond (b := (decide (s1 < (a0.length : Int)))) rfl (fun c4 => ?_) (fun c4 => ?_)
    ·
     replace h1 := condT c4 h1
     refine XC.skip <| XQ.seq <| XC.seq <| XC.block <| XC.seq <| XC.region <| rM rfl rfl rfl <| rA rfl rfl rfl <| XL.nil <| XQ.seq <| XC.seq ?_
     refine XC.anyRun [] [] mixed (by kernel_rfl) (by kernel_rfl) (by kernel_rfl) ?_
     refine RunA.rd rfl rfl rfl (OpOK.of_ro (RO.move rfl)) rfl <| RunA.rd rfl rfl rfl (OpOK.of_ro (RO.move rfl)) rfl ?_
     refine bindK h1 (fun x5 hx5 h1 => ?_)
     refine RunA.rd rfl rfl rfl (OpOK.of_ro (RO.indexE (α := Int) sl_54 rfl (.d _) rfl hx5)) rfl <| RunA.rd rfl rfl rfl (OpOK.of_ro (RO.loadPel ag_3 rfl rfl)) rfl <| RunA.rd rfl rfl rfl (OpOK.of_ro (RO.move rfl)) rfl <| RunA.rd rfl rfl rfl (OpOK.of_ro (RO.move rfl)) rfl ?_
     refine bindK h1 (fun x6 hx6 h1 => ?_)
     refine RunA.rd rfl rfl rfl (OpOK.of_ro (RO.indexE (α := Int) sl_54 rfl (.d _) rfl hx6)) rfl <| RunA.rd rfl rfl rfl (OpOK.of_ro (RO.loadPel ag_3 rfl rfl)) rfl <| RunA.rd rfl rfl rfl (OpOK.of_ro (RO.binInt rfl rfl rfl)) rfl ?_
     refine RunA.nil ⟨?ex, _, _, rfl, ?_⟩
     case ex => exact trivial
     refine XQ.less (st' := ⟨[(0, .v (.one (dS a0))), (1, .v (.one (dS a1))), (12, .v (.one (dI (a0.length : Int)))), (13, .v (.one (dI s1))), (24, .v (.one (dB (x5 != x6))))], [], [], 0, 26, []⟩) (stle (tR rfl (tR rfl (tR rfl (tR rfl (tR rfl tZ))))) hZ kZ rfl (Nat.zero_le _) rfl rfl rfl bZ rfl rfl) <| XQ.seq ?_
     refine XC.cond (b := (x5 != x6)) rfl (fun c7 => ?_) (fun c7 => ?_)
     ·
      replace h1 := condT c7 h1
      refine XC.seq <| XC.region <| rA rfl rfl rfl <| XL.nil <| XQ.seq <| XC.ret ?_
      have e_ := Option.some.inj h1
      subst e_
      have e_ : _ = _ := ho1
      subst e_
      try dsimp only [Sum.elim_inl, Sum.elim_inr] at h0
      have e_ := Option.some.inj h0
      subst e_
      exact XQ.retF (fun _ _ h => h) rfl (RAs.tmp rfl .nil) (.cons (.one (.d _)) .nil)
     ·
      replace h1 := condF c7 h1
      refine XC.skip <| XQ.inBlock <| XQ.seq <| XC.region <| rR rfl rfl rfl (RO.binInt rfl rfl rfl) <| rM rfl rfl rfl <| XL.nil ?_
      have e_ := Option.some.inj h1
      subst e_
      refine XQ.nextM (w64 (s1 + 1)) (stle (tR rfl (tR rfl (tR rfl (tR rfl tZ)))) hZ kZ rfl (Nat.zero_le _) rfl rfl rfl bZ rfl rfl) ho1
    ·
     replace h1 := condF c4 h1
     refine XC.exit <| XQ.thenE <| XQ.thenE ?_
     have e_ := Option.some.inj h1
     subst e_
     have e_ : _ = _ := ho1
     subst e_
     exact XQ.joinX () (stle tZ hZ kZ rfl (Nat.zero_le _) rfl rfl rfl bZ rfl rfl) h0
   ·
    intro o2 h0
    refine XQ.blockX <| XQ.seq <| XC.seq <| XC.region <| rA rfl rfl rfl <| XL.nil <| XQ.seq <| XC.ret ?_
    have e_ := Option.some.inj h0
    subst e_
    exact XQ.retF (fun _ _ h => h) rfl (RAs.tmp rfl .nil) (.cons (.one (.d _)) .nil)
end Go.Proofs.Ytijcchddnnnmdaa
