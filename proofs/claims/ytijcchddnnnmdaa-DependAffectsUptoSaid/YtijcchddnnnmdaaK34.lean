/- Part 4 of the proof: rules, mirrors and plain laws. The statement DependAffectsUpto is proved here: for every list of declarations and every list of names the law returns true, and the arguments read behind the call as they did before; condition: the arguments are of bulk at most 1048576 (the second form). -/
import Derived.Test.YtijcchddnnnmdaaK33
namespace Go.Proofs.Ytijcchddnnnmdaa
open Go.RowKit
set_option linter.unusedSimpArgs false
set_option linter.unusedVariables false
set_option linter.unusedSectionVars false
def Tr.size : Tr → Nat
  | .mk _ b _ brs => 1 + b.size + (brs.attach.map fun x => 1 + x.1.ctor.length + Tr.size x.1.tree).sum
termination_by t => SizeOf.sizeOf t
decreasing_by
  have h1 := List.sizeOf_lt_of_mem x.2
  have h2 := BrF.tree_lt x.1
  simp only [Tr.mk.sizeOf_spec]; omega
def Tr.cn : Tr → List Bs
  | .mk k b _ brs => if k = 0 then consts b else (brs.attach.map fun x => x.1.ctor :: (if x.1.absurd then [] else Tr.cn x.1.tree)).flatten
termination_by t => SizeOf.sizeOf t
decreasing_by
  have h1 := List.sizeOf_lt_of_mem x.2
  have h2 := BrF.tree_lt x.1
  simp only [Tr.mk.sizeOf_spec]; omega
def bsz (b : Br) : Nat := 1 + b.ctor.length + b.tree.size
def bcn (b : Br) : List Bs := b.ctor :: (if b.absurd then [] else b.tree.cn)
theorem Tr.size_eq (t : Tr) : t.size = 1 + t.body.size + (t.branches.map bsz).sum := by
  cases t with
  | mk k b v brs =>
    rw [Tr.size]
    show _ = 1 + b.size + (brs.map bsz).sum
    rw [← List.attach_map_val (l := brs) (f := bsz)]; rfl
theorem Tr.cn_eq (t : Tr) : t.cn = if t.kind = 0 then consts t.body else (t.branches.map bcn).flatten := by
  cases t with
  | mk k b v brs =>
    rw [Tr.cn]
    show _ = if k = 0 then consts b else (brs.map bcn).flatten
    rw [← List.attach_map_val (l := brs) (f := bcn)]; rfl
theorem Tr.kid_size {t : Tr} {b : Br} (h : b ∈ t.branches) : b.tree.size < t.size := by
  have := sum_mem bsz h
  have e : bsz b = 1 + b.ctor.length + b.tree.size := rfl
  rw [t.size_eq]; omega
theorem Tr.ind {C : Tr → Prop} (h : ∀ t : Tr, (∀ b ∈ t.branches, C b.tree) → C t) (t : Tr) : C t := by
  have : ∀ n (t : Tr), t.size ≤ n → C t := by
    intro n
    induction n with
    | zero => intro t ht; rw [t.size_eq] at ht; omega
    | succ n ih => exact fun t ht => h t fun k hk => ih k.tree (by have := Tr.kid_size hk; omega)
  exact this _ t (Nat.le_refl _)
theorem Tr.cn_len (t : Tr) : t.cn.length ≤ t.size := by
  induction t using Tr.ind with
  | h t ih =>
    rw [t.cn_eq, t.size_eq]
    split
    · have := consts_len t.body; omega
    · have := flat_sum bcn bsz t.branches fun b hb => by
        have := ih b hb
        unfold bcn bsz
        rw [List.length_cons]
        split
        · simp; omega
        · omega
      omega
theorem len_sum {α : Type} (g : α → Nat) (hg : ∀ x, 1 ≤ g x) : ∀ l : List α, l.length ≤ (l.map g).sum
  | [] => Nat.le_refl _
  | x :: l => by
    rw [List.map_cons, List.sum_cons, List.length_cons]
    have := hg x
    have := len_sum g hg l
    omega
theorem branches_len (t : Tr) : t.branches.length < t.size := by
  have := len_sum bsz (fun b => by unfold bsz; omega) t.branches
  rw [t.size_eq]; omega
def csz (c : Ctr) : Nat := 1 + c.name.length + c.ty.size
def fsz (f : Fn) : Nat := 1 + f.name.length + f.ty.size + f.tree.size
def Dcl.size (d : Dcl) : Nat := 1 + d.name.length + d.ty.size + d.value.size + (d.ctors.map csz).sum + d.rcr.ty.size + (d.rcr.rules.map Tm.size).sum + (d.funs.map fsz).sum
theorem ctors_len (d : Dcl) : d.ctors.length < d.size := by
  have := len_sum csz (fun b => by unfold csz; omega) d.ctors
  unfold Dcl.size; omega
theorem funs_len (d : Dcl) : d.funs.length < d.size := by
  have := len_sum fsz (fun b => by unfold fsz; omega) d.funs
  unfold Dcl.size; omega
theorem rules_len (d : Dcl) : d.rcr.rules.length < d.size := by
  have := len_sum Tm.size (fun b => by rw [b.size_eq]; omega) d.rcr.rules
  unfold Dcl.size; omega
def names (d : Dcl) : List Bs :=
  if d.kind = 0 ∨ d.kind = 1 ∨ d.kind = 2 then [d.name] else
  if d.kind = 3 then (d.name :: d.ctors.map (·.name)) ++ [d.name ++ [46, 114, 101, 99]] else
  if d.kind = 4 then d.funs.map (·.name) else []
theorem names_len (d : Dcl) : (names d).length ≤ d.size + 1 := by
  have h1 := ctors_len d
  have h2 := funs_len d
  unfold names
  split
  · simp
  · split
    · simp; omega
    · split
      · simp; omega
      · simp
theorem fold_snoc {α : Type} (f : α → Bs) : ∀ (l : List α) (s : List Bs), l.foldl (fun s x => s ++ [f x]) s = s ++ l.map f
  | [], s => by simp
  | x :: l, s => by rw [List.foldl_cons, fold_snoc f l]; simp
theorem kinds_eq (k : Int) : (cond (k == 0) (some (k == 0)) (cond (k == 1) (some (k == 1)) (some (k == 2)))) = some (decide (k = 0 ∨ k = 1 ∨ k = 2)) := by
  by_cases h0 : k = 0
  · subst h0; rfl
  · by_cases h1 : k = 1
    · subst h1; rfl
    · by_cases h2 : k = 2
      · subst h2; rfl
      · simp [beqI, h0, h1, h2]
theorem m37_eq (d : Dcl) (h : d.size ≤ 900000000) : m37 d = some (names d) := by
  have h1 := ctors_len d
  have h2 := funs_len d
  have hn : d.name.length < d.size := by unfold Dcl.size; omega
  unfold m37
  rw [kinds_eq, Option.bind_some]
  unfold names
  by_cases hk : d.kind = 0 ∨ d.kind = 1 ∨ d.kind = 2
  · rw [if_pos hk, decide_eq_true hk]; rfl
  rw [if_neg hk, decide_eq_false hk]
  by_cases h3 : d.kind = 3
  · rw [if_pos h3, h3, loop_fold (step := m37_l0 d) d.ctors (fun i (s : List Bs) => (s, i)) (fun s c => s ++ [c.name]) [d.name] ((d.name :: d.ctors.map (·.name))) (by omega)
      (fun a x b hl => by
        rw [fold_snoc]
        unfold m37_l0
        dsimp only
        have : a.length < d.ctors.length := mid_lt hl
        rw [hl, lt_mid, idx_mid]
        simp only [cond_true, Option.bind_some]
        rw [guard_le (by simp; omega)])
      (by unfold m37_l0; dsimp only; rw [lt_end, fold_snoc]; rfl)]
    simp only [cond_false, Option.bind_some, beq_self_eq_true, cond_true]
    rw [guard_le (by simp), guard_le (by simp; omega), guard_le (by simp; omega)]
  rw [if_neg h3, show (d.kind == 3) = false from beq_eq_false_iff_ne.2 h3]
  by_cases h4 : d.kind = 4
  · rw [if_pos h4, h4, loop_fold (step := m37_l1 d) d.funs (fun i (s : List Bs) => (s, i)) (fun s c => s ++ [c.name]) [] (d.funs.map (·.name)) (by omega)
      (fun a x b hl => by
        rw [fold_snoc]
        unfold m37_l1
        dsimp only
        have : a.length < d.funs.length := mid_lt hl
        rw [hl, lt_mid, idx_mid]
        simp only [cond_true, Option.bind_some]
        rw [guard_le (by simp; omega)])
      (by unfold m37_l1; dsimp only; rw [lt_end, fold_snoc]; rfl)]
    rfl
  rw [if_neg h4, show (d.kind == 4) = false from beq_eq_false_iff_ne.2 h4]; rfl
theorem m18_eq (d : Dcl) (h : d.size ≤ 900000000) : m18 d = some (names d) := by
  have h1 := ctors_len d
  have h2 := funs_len d
  have hn : d.name.length < d.size := by unfold Dcl.size; omega
  unfold m18
  rw [kinds_eq, Option.bind_some]
  unfold names
  by_cases hk : d.kind = 0 ∨ d.kind = 1 ∨ d.kind = 2
  · rw [if_pos hk, decide_eq_true hk]; rfl
  rw [if_neg hk, decide_eq_false hk]
  by_cases h3 : d.kind = 3
  · rw [if_pos h3, h3, loop_fold (step := m18_l0 d) d.ctors (fun i (s : List Bs) => (s, i)) (fun s c => s ++ [c.name]) [d.name] ((d.name :: d.ctors.map (·.name))) (by omega)
      (fun a x b hl => by
        rw [fold_snoc]
        unfold m18_l0
        dsimp only
        have : a.length < d.ctors.length := mid_lt hl
        rw [hl, lt_mid, idx_mid]
        simp only [cond_true, Option.bind_some]
        rw [guard_le (by simp; omega)])
      (by unfold m18_l0; dsimp only; rw [lt_end, fold_snoc]; rfl)]
    simp only [cond_false, Option.bind_some, beq_self_eq_true, cond_true]
    rw [guard_le (by simp; omega), guard_le (by simp; omega)]
  rw [if_neg h3, show (d.kind == 3) = false from beq_eq_false_iff_ne.2 h3]
  by_cases h4 : d.kind = 4
  · rw [if_pos h4, h4, loop_fold (step := m18_l1 d) d.funs (fun i (s : List Bs) => (s, i)) (fun s c => s ++ [c.name]) [] (d.funs.map (·.name)) (by omega)
      (fun a x b hl => by
        rw [fold_snoc]
        unfold m18_l1
        dsimp only
        have : a.length < d.funs.length := mid_lt hl
        rw [hl, lt_mid, idx_mid]
        simp only [cond_true, Option.bind_some]
        rw [guard_le (by simp; omega)])
      (by unfold m18_l1; dsimp only; rw [lt_end, fold_snoc]; rfl)]
    rfl
  rw [if_neg h4, show (d.kind == 4) = false from beq_eq_false_iff_ne.2 h4]; rfl
theorem m52f3_eq (l own out : List Bs) (M : GMap Bs Bool) (a3 : List Tm) (a4 : Dcl) (hM : Met own out M) (h : out.length + l.length ≤ 900000000) : ∃ M', m52f3 l M out a3 a4 = some (M', addL own out l) ∧ Met own (addL own out l) M' := by
  unfold m52f3
  obtain ⟨r, e, M', rfl, hM'⟩ := loop_all (step := m52f3_l0 l a3 a4) l (fun i (s : GMap Bs Bool × List Bs) => (i, s.1, s.2)) (fun a s => Met own s.2 s.1 ∧ s.2 = addL own out a) (fun r => ∃ M', r = (M', addL own out l) ∧ Met own (addL own out l) M') (by omega)
    (fun a x b s hl hs => .inr (by
      obtain ⟨Ms, os⟩ := s
      obtain ⟨hs1, hs2⟩ := hs
      dsimp only at hs1 hs2
      have hol := addL_len own a out
      rw [← hs2] at hol
      have : a.length < l.length := mid_lt hl
      obtain ⟨M1, e1, hM1⟩ := add_step hs1 x (by omega)
      refine ⟨(M1, addN own os x), ?_, hM1, ?_⟩
      · unfold m52f3_l0
        dsimp only
        rw [hl, lt_mid, idx_mid]
        simp only [cond_true, Option.bind_some]
        unfold m89f4
        rw [e1]; rfl
      · rw [addL_app, ← hs2]; rfl))
    (fun s hs => ⟨(s.1, s.2), by unfold m52f3_l0; dsimp only; rw [lt_end]; rfl, s.1, by rw [hs.2], by rw [← hs.2]; exact hs.1⟩) (M, out) ⟨hM, rfl⟩
  rw [e]
  exact ⟨M', rfl, hM'⟩
theorem tvisit_ok (a3 : List Tm) (a4 : Dcl) : ∀ (n : Nat) (t : Tr) (own out : List Bs) (M : GMap Bs Bool), t.size ≤ n → Met own out M → out.length + t.size ≤ 900000000 →
    ∃ M', recO m75f1F n (t, M, out, a3, a4) = some (true, M', addL own out t.cn) ∧ Met own (addL own out t.cn) M'
  | 0, t, own, out, M, h, _, _ => by rw [t.size_eq] at h; omega
  | n + 1, t, own, out, M, h, hM, hb => by
    show ∃ M', m75f1s (recO m75f1F n) t M out a3 a4 = _ ∧ _
    unfold m75f1s
    have hsz := t.size_eq
    have hlen := branches_len t
    rw [t.cn_eq]
    by_cases hk : t.kind = 0
    · rw [if_pos hk, hk]
      have := consts_len t.body
      rw [m74_eq _ (by omega)]
      obtain ⟨M', e, hM'⟩ := m52f3_eq (consts t.body) own out M a3 a4 hM (by omega)
      refine ⟨M', ?_, hM'⟩
      simp only [Option.bind_some, beq_self_eq_true, cond_true]
      unfold m31f2
      rw [e]; rfl
    · rw [if_neg hk, show (t.kind == 0) = false from beq_eq_false_iff_ne.2 hk, cond_false]
      obtain ⟨r, e, M', rfl, hM'⟩ := loop_all (step := m75f1_l0 t (recO m75f1F n) a3 a4) t.branches (fun i (s : GMap Bs Bool × List Bs) => (i, s.1, s.2)) (fun a s => Met own s.2 s.1 ∧ s.2 = addL own out (a.map bcn).flatten)
        (fun r => ∃ M', r = .inl (M', addL own out (t.branches.map bcn).flatten) ∧ Met own (addL own out (t.branches.map bcn).flatten) M') (by omega)
        (fun a x b s hl hs => .inr (by
          obtain ⟨Ms, os⟩ := s
          obtain ⟨hs1, hs2⟩ := hs
          dsimp only at hs1 hs2
          have hx : x ∈ t.branches := by rw [hl]; simp
          have hxs := Tr.kid_size hx
          have hol : os.length ≤ out.length + (a.map bsz).sum := by
            rw [hs2]
            refine Nat.le_trans (addL_len own _ _) ?_
            have := flat_sum bcn bsz a fun y _ => by
              have := y.tree.cn_len
              unfold bcn bsz
              rw [List.length_cons]
              split
              · simp; omega
              · omega
            omega
          have htot : (t.branches.map bsz).sum = (a.map bsz).sum + bsz x + (b.map bsz).sum := by rw [hl, sum_split]
          have hbx : bsz x = 1 + x.ctor.length + x.tree.size := rfl
          obtain ⟨M1, e1, hM1⟩ := add_step hs1 x.ctor (by omega)
          have hadd := addN_len own os x.ctor
          cases ha : x.absurd with
          | true =>
            refine ⟨(M1, addN own os x.ctor), ?_, hM1, ?_⟩
            · unfold m75f1_l0
              dsimp only
              rw [hl, lt_mid, idx_mid]
              simp only [cond_true, Option.bind_some]
              rw [e1, ha]; rfl
            · rw [List.map_append, List.flatten_append, addL_app, ← hs2]
              simp only [List.map_cons, List.map_nil, List.flatten_cons, List.flatten_nil, List.append_nil, bcn, ha, if_true]; rfl
          | false =>
            obtain ⟨M2, e2, hM2⟩ := tvisit_ok a3 a4 n x.tree own (addN own os x.ctor) M1 (by omega) hM1 (by omega)
            refine ⟨(M2, addL own (addN own os x.ctor) x.tree.cn), ?_, hM2, ?_⟩
            · unfold m75f1_l0
              dsimp only
              rw [hl, lt_mid, idx_mid]
              simp only [cond_true, Option.bind_some]
              rw [e1, ha]
              simp only [Option.bind_some, Bool.not_false, cond_true]
              rw [e2]; rfl
            · rw [List.map_append, List.flatten_append, addL_app, ← hs2]
              simp only [List.map_cons, List.map_nil, List.flatten_cons, List.flatten_nil, List.append_nil, bcn, ha]; rfl))
        (fun s hs => ⟨.inl (s.1, s.2), by unfold m75f1_l0; dsimp only; rw [lt_end]; rfl, s.1, by rw [hs.2], by rw [← hs.2]; exact hs.1⟩) (M, out) ⟨hM, rfl⟩
      rw [e]
      exact ⟨M', rfl, hM'⟩
def termsOf (d : Dcl) : List Tm := [d.ty, d.value] ++ d.ctors.map (·.ty) ++ [d.rcr.ty] ++ d.rcr.rules ++ d.funs.map (·.ty)
def mentioned (d : Dcl) : List Bs := ((termsOf d).map consts).flatten ++ (d.funs.map fun f => f.tree.cn).flatten
def uses (d : Dcl) : List Bs := addL (names d) [] (mentioned d)
theorem flat_le {α : Type} (f : α → List Bs) (g : α → Nat) (h : ∀ x, (f x).length ≤ g x) (l : List α) : (l.map f).flatten.length ≤ (l.map g).sum := flat_sum f g l fun x _ => h x
theorem sum_le {α : Type} (f g : α → Nat) (h : ∀ x, f x ≤ g x) : ∀ l : List α, (l.map f).sum ≤ (l.map g).sum
  | [] => Nat.le_refl _
  | x :: l => by
    simp only [List.map_cons, List.sum_cons]
    have := h x
    have := sum_le f g h l
    omega
theorem terms_sum (d : Dcl) : ((termsOf d).map Tm.size).sum + (d.funs.map fun f => f.tree.size).sum < d.size := by
  unfold termsOf Dcl.size
  simp only [List.map_append, List.map_cons, List.map_nil, List.sum_append, List.sum_cons, List.sum_nil, List.map_map]
  have h1 := sum_le (Tm.size ∘ fun c : Ctr => c.ty) csz (fun c => by show c.ty.size ≤ csz c; unfold csz; omega) d.ctors
  have h2 : (d.funs.map (Tm.size ∘ fun f : Fn => f.ty)).sum + (d.funs.map fun f => f.tree.size).sum ≤ (d.funs.map fsz).sum := by
    induction d.funs with
    | nil => exact Nat.le_refl _
    | cons f l ih =>
      simp only [List.map_cons, List.sum_cons]
      have : fsz f = 1 + f.name.length + f.ty.size + f.tree.size := rfl
      have : (Tm.size ∘ fun f : Fn => f.ty) f = f.ty.size := rfl
      omega
  omega
theorem terms_len (d : Dcl) : (termsOf d).length < d.size := by
  have := terms_sum d
  have h1 := len_sum Tm.size (fun b => by rw [b.size_eq]; omega) (termsOf d)
  omega
theorem mentioned_len (d : Dcl) : (mentioned d).length < d.size := by
  unfold mentioned
  rw [List.length_append]
  have h1 := flat_le consts Tm.size consts_len (termsOf d)
  have h2 := flat_le (fun f : Fn => f.tree.cn) (fun f => f.tree.size) (fun f => f.tree.cn_len) d.funs
  have := terms_sum d
  omega
theorem uses_len (d : Dcl) : (uses d).length < d.size := by
  have := addL_len (names d) (mentioned d) []
  have := mentioned_len d
  unfold uses
  simp only [List.length_nil] at *
  omega
theorem fold_snocT {α : Type} (f : α → Tm) : ∀ (l : List α) (s : List Tm), l.foldl (fun s x => s ++ [f x]) s = s ++ l.map f
  | [], s => by simp
  | x :: l, s => by rw [List.foldl_cons, fold_snocT f l]; simp
theorem term_mem {d : Dcl} {t : Tm} (h : t ∈ termsOf d) : t.size < d.size := by
  have := sum_mem Tm.size h
  have := terms_sum d
  omega
theorem fun_mem {d : Dcl} {f : Fn} (h : f ∈ d.funs) : f.tree.size < d.size := by
  have := sum_mem (fun f : Fn => f.tree.size) h
  have := terms_sum d
  omega
theorem terms_eq (d : Dcl) (h : d.size ≤ 900000000) : (Option.bind (loopN (m53_l1 d) FUEL (0, [d.ty, d.value])) (fun (o5 : (List Tm)) => guardO (Nat.ble (o5.length + ([d.rcr.ty]).length) 1000000000)
  (guardO (Nat.ble ((o5 ++ ([d.rcr.ty])).length + d.rcr.rules.length) 1000000000)
  (Option.bind (loopN (m53_l2 d) FUEL (0, ((o5 ++ ([d.rcr.ty])) ++ d.rcr.rules))) (fun (o8 : (List Tm)) => some o8))))) = some (termsOf d) := by
  have h1 := ctors_len d
  have h2 := funs_len d
  have h3 := rules_len d
  have hsum : d.ctors.length + d.rcr.rules.length + d.funs.length + 3 ≤ d.size := by
    have := terms_len d
    unfold termsOf at this
    simp at this
    omega
  rw [loop_fold (step := m53_l1 d) d.ctors (fun i (s : List Tm) => (i, s)) (fun s c => s ++ [c.ty]) [d.ty, d.value] ([d.ty, d.value] ++ d.ctors.map (·.ty)) (by omega)
    (fun a x b hl => by
      rw [fold_snocT]
      unfold m53_l1
      dsimp only
      have : a.length < d.ctors.length := mid_lt hl
      rw [hl, lt_mid, idx_mid]
      simp only [cond_true, Option.bind_some]
      rw [guard_le (by simp; omega)])
    (by unfold m53_l1; dsimp only; rw [lt_end, fold_snocT]; rfl)]
  simp only [Option.bind_some]
  rw [guard_le (by simp; omega), guard_le (by simp; omega)]
  rw [loop_fold (step := m53_l2 d) d.funs (fun i (s : List Tm) => (i, s)) (fun s c => s ++ [c.ty]) _ (termsOf d) (by omega)
    (fun a x b hl => by
      rw [fold_snocT]
      unfold m53_l2
      dsimp only
      have : a.length < d.funs.length := mid_lt hl
      rw [hl, lt_mid, idx_mid]
      simp only [cond_true, Option.bind_some]
      rw [guard_le (by simp; omega)])
    (by unfold m53_l2; dsimp only; rw [lt_end, fold_snocT]; rfl)]
  rfl
theorem seen_eq (l : List Bs) (h : l.length ≤ 900000000) : ∃ M, loopN (m53_l0 l) FUEL (0, gmNil) = some M ∧ Met l [] M := by
  refine loop_all (step := m53_l0 l) l (fun i (s : GMap Bs Bool) => (i, s)) (fun a s => Met a [] s) (fun M => Met l [] M) h
    (fun a x b s hl hs => .inr ⟨gmSet s x true, ?_, fun y => ?_⟩) (fun s hs => ⟨s, by unfold m53_l0; dsimp only; rw [lt_end]; rfl, hs⟩) gmNil Met.nil
  · unfold m53_l0
    dsimp only
    rw [hl, lt_mid, idx_mid]; rfl
  · rw [gmVal_set, hs y]
    by_cases e : y = x
    · subst e; simp
    · simp [e]
theorem m53_l3_eq (l own out : List Bs) (M : GMap Bs Bool) (hM : Met own out M) (h : out.length + l.length ≤ 900000000) : ∃ M', loopN (m53_l3 l) FUEL (0, M, out) = some (M', addL own out l) ∧ Met own (addL own out l) M' := by
  obtain ⟨r, e, M', rfl, hM'⟩ := loop_all (step := m53_l3 l) l (fun i (s : GMap Bs Bool × List Bs) => (i, s.1, s.2)) (fun a s => Met own s.2 s.1 ∧ s.2 = addL own out a) (fun r => ∃ M', r = (M', addL own out l) ∧ Met own (addL own out l) M') (by omega)
    (fun a x b s hl hs => .inr (by
      obtain ⟨Ms, os⟩ := s
      obtain ⟨hs1, hs2⟩ := hs
      dsimp only at hs1 hs2
      have hol := addL_len own a out
      rw [← hs2] at hol
      have : a.length < l.length := mid_lt hl
      obtain ⟨M1, e1, hM1⟩ := add_step hs1 x (by omega)
      refine ⟨(M1, addN own os x), ?_, hM1, ?_⟩
      · unfold m53_l3
        dsimp only
        rw [hl, lt_mid, idx_mid]
        simp only [cond_true, Option.bind_some]
        rw [e1]; rfl
      · rw [addL_app, ← hs2]; rfl))
    (fun s hs => ⟨(s.1, s.2), by unfold m53_l3; dsimp only; rw [lt_end]; rfl, s.1, by rw [hs.2], by rw [← hs.2]; exact hs.1⟩) (M, out) ⟨hM, rfl⟩
  exact ⟨M', e, hM'⟩
theorem m53_eq (d : Dcl) (h : d.size ≤ 400000000) : m53 d = some (uses d) := by
  have hn := names_len d
  have hts := terms_sum d
  have htl := terms_len d
  have hfl := funs_len d
  unfold m53
  rw [m37_eq d (by omega), Option.bind_some]
  obtain ⟨M0, e0, hM0⟩ := seen_eq (names d) (by omega)
  rw [e0, Option.bind_some, terms_eq d (by omega), Option.bind_some]
  obtain ⟨r, e1, M1, rfl, hM1⟩ := loop_all (step := m53_l4 (termsOf d)) (termsOf d) (fun i (s : GMap Bs Bool × List Bs) => (i, s.1, s.2)) (fun a s => Met (names d) s.2 s.1 ∧ s.2 = addL (names d) [] (a.map consts).flatten)
    (fun r => ∃ M', r = (M', addL (names d) [] ((termsOf d).map consts).flatten) ∧ Met (names d) (addL (names d) [] ((termsOf d).map consts).flatten) M') (by omega)
    (fun a x b s hl hs => .inr (by
      obtain ⟨Ms, os⟩ := s
      obtain ⟨hs1, hs2⟩ := hs
      dsimp only at hs1 hs2
      have hx : x ∈ termsOf d := by rw [hl]; simp
      have hxs := term_mem hx
      have htot : ((termsOf d).map Tm.size).sum = (a.map Tm.size).sum + x.size + (b.map Tm.size).sum := by rw [hl, sum_split]
      have hol : os.length ≤ (a.map Tm.size).sum := by
        rw [hs2]
        refine Nat.le_trans (addL_len _ _ _) ?_
        have := flat_le consts Tm.size consts_len a
        simp only [List.length_nil]; omega
      have hcl := consts_len x
      obtain ⟨M2, e2, hM2⟩ := m53_l3_eq (consts x) (names d) os Ms hs1 (by omega)
      refine ⟨(M2, addL (names d) os (consts x)), ?_, hM2, ?_⟩
      · unfold m53_l4
        dsimp only
        rw [hl, lt_mid, idx_mid]
        simp only [cond_true, Option.bind_some]
        rw [m74_eq x (by omega), Option.bind_some, e2]; rfl
      · rw [hs2, ← addL_app]; simp))
    (fun s hs => ⟨(s.1, s.2), by unfold m53_l4; dsimp only; rw [lt_end]; rfl, s.1, by rw [hs.2], by rw [← hs.2]; exact hs.1⟩) (M0, []) ⟨hM0, rfl⟩
  rw [e1, Option.bind_some]
  have hl1 : (addL (names d) [] ((termsOf d).map consts).flatten).length ≤ ((termsOf d).map Tm.size).sum := by
    refine Nat.le_trans (addL_len _ _ _) ?_
    have := flat_le consts Tm.size consts_len (termsOf d)
    simp only [List.length_nil]; omega
  obtain ⟨r, e3, M3, rfl, hM3⟩ := loop_all (step := m53_l5 d (termsOf d)) d.funs (fun i (s : GMap Bs Bool × List Bs) => (i, s.1, s.2)) (fun a s => Met (names d) s.2 s.1 ∧ s.2 = addL (names d) (addL (names d) [] ((termsOf d).map consts).flatten) (a.map fun f => f.tree.cn).flatten)
    (fun r => ∃ M', r = .inl (M', uses d)) (by omega)
    (fun a x b s hl hs => .inr (by
      obtain ⟨Ms, os⟩ := s
      obtain ⟨hs1, hs2⟩ := hs
      dsimp only at hs1 hs2
      have hx : x ∈ d.funs := by rw [hl]; simp
      have hxs := fun_mem hx
      have htot : (d.funs.map fun f => f.tree.size).sum = (a.map fun f => f.tree.size).sum + x.tree.size + (b.map fun f => f.tree.size).sum := by rw [hl, sum_split]
      have hol : os.length ≤ ((termsOf d).map Tm.size).sum + (a.map fun f => f.tree.size).sum := by
        rw [hs2]
        refine Nat.le_trans (addL_len _ _ _) ?_
        have := flat_le (fun f : Fn => f.tree.cn) (fun f => f.tree.size) (fun f => f.tree.cn_len) a
        omega
      obtain ⟨M2, e2, hM2⟩ := tvisit_ok (termsOf d) d FUEL x.tree (names d) os Ms (by unfold FUEL; omega) hs1 (by omega)
      refine ⟨(M2, addL (names d) os x.tree.cn), ?_, hM2, ?_⟩
      · unfold m53_l5
        dsimp only
        rw [hl, lt_mid, idx_mid]
        simp only [cond_true, Option.bind_some]
        unfold m75f1
        rw [e2]; rfl
      · rw [hs2, ← addL_app]; simp))
    (fun s hs => ⟨.inl (s.1, s.2), by unfold m53_l5; dsimp only; rw [lt_end]; rfl, s.1, by
      obtain ⟨s1, s2⟩ := s
      have := hs.2
      dsimp only at this ⊢
      unfold uses mentioned
      rw [addL_app, ← this]⟩) (M1, addL (names d) [] ((termsOf d).map consts).flatten) ⟨hM1, rfl⟩
  rw [e3]; rfl
theorem rtree_ok : ∀ (n : Nat) (t : Tr) (out : List Bs), t.size ≤ n → out.length + t.size ≤ 900000000 → recO m63f10F n (t, out) = some (out ++ t.cn)
  | 0, t, out, h, _ => by rw [t.size_eq] at h; omega
  | n + 1, t, out, h, hb => by
    show m63f10s (recO m63f10F n) t out = _
    unfold m63f10s
    have hsz := t.size_eq
    have hlen := branches_len t
    rw [t.cn_eq]
    by_cases hk : t.kind = 0
    · rw [if_pos hk, hk]
      have := consts_len t.body
      rw [m62f8_eq _ (by omega)]
      simp only [Option.bind_some, beq_self_eq_true, cond_true]
      rw [guard_le (by omega)]
    · rw [if_neg hk, show (t.kind == 0) = false from beq_eq_false_iff_ne.2 hk, cond_false]
      obtain ⟨r, e, rfl⟩ := loop_all (step := m63f10_l0 t (recO m63f10F n)) t.branches (fun i (s : List Bs) => (s, i)) (fun a s => s = out ++ (a.map bcn).flatten)
        (fun r => r = out ++ (t.branches.map bcn).flatten) (by omega)
        (fun a x b s hl hs => .inr (by
          have hx : x ∈ t.branches := by rw [hl]; simp
          have hxs := Tr.kid_size hx
          have hol : s.length ≤ out.length + (a.map bsz).sum := by
            rw [hs, List.length_append]
            have := flat_sum bcn bsz a fun y _ => by
              have := y.tree.cn_len
              unfold bcn bsz
              rw [List.length_cons]
              split
              · simp; omega
              · omega
            omega
          have htot : (t.branches.map bsz).sum = (a.map bsz).sum + bsz x + (b.map bsz).sum := by rw [hl, sum_split]
          have hbx : bsz x = 1 + x.ctor.length + x.tree.size := rfl
          refine ⟨s ++ bcn x, ?_, by rw [hs]; simp⟩
          unfold m63f10_l0
          dsimp only
          rw [hl, lt_mid, idx_mid]
          simp only [cond_true, Option.bind_some]
          rw [guard_le (by show s.length + 1 ≤ _; omega)]
          cases ha : x.absurd with
          | true => simp [bcn, ha]
          | false =>
            simp only [Bool.not_false, cond_true]
            rw [rtree_ok n x.tree _ (by omega) (by simp; omega)]
            simp [bcn, ha]))
        (fun s hs => ⟨s, by unfold m63f10_l0; dsimp only; rw [lt_end]; rfl, hs⟩) out (by simp)
      rw [e]; rfl
theorem acc_loop {α : Type} {step : List Bs × Int → Option (LO (List Bs × Int) (List Bs))} (l : List α) (f : α → List Bs) (s0 : List Bs) (hlen : l.length ≤ 900000000)
    (hin : ∀ a x b, l = a ++ x :: b → step (s0 ++ (a.map f).flatten, (a.length : Int)) = some (.next ((s0 ++ (a.map f).flatten) ++ f x, w64 ((a.length : Int) + 1))))
    (hout : ∀ s, step (s, (l.length : Int)) = some (.done s)) : loopN step FUEL (s0, 0) = some (s0 ++ (l.map f).flatten) := by
  obtain ⟨r, e, rfl⟩ := loop_all (step := step) l (fun i (s : List Bs) => (s, i)) (fun a s => s = s0 ++ (a.map f).flatten) (fun r => r = s0 ++ (l.map f).flatten) hlen
    (fun a x b s hl hs => .inr ⟨s ++ f x, by rw [hs]; exact hin a x b hl, by rw [hs]; simp⟩) (fun s hs => ⟨s, hout s, hs⟩) s0 (by simp)
  exact e
theorem m47_eq (d : Dcl) (h : d.size ≤ 400000000) : m47 d = some (uses d) := by
  have hn := names_len d
  have hts := terms_sum d
  have htl := terms_len d
  have hfl := funs_len d
  have hcl := ctors_len d
  have hrl := rules_len d
  have hml := mentioned_len d
  have hm1 := term_mem (d := d) (t := d.ty) (by unfold termsOf; simp)
  have hm2 := term_mem (d := d) (t := d.value) (by unfold termsOf; simp)
  have hm3 := term_mem (d := d) (t := d.rcr.ty) (by unfold termsOf; simp)
  have hml' : (consts d.ty).length + (consts d.value).length + ((d.ctors.map fun c => consts c.ty).flatten).length + (consts d.rcr.ty).length + ((d.rcr.rules.map consts).flatten).length + ((d.funs.map fun f => consts f.ty).flatten).length + ((d.funs.map fun f => f.tree.cn).flatten).length = (mentioned d).length := by
    unfold mentioned termsOf
    simp only [List.map_append, List.map_cons, List.map_nil, List.flatten_append, List.flatten_cons, List.flatten_nil, List.append_nil, List.length_append, List.map_map, Function.comp_def]
  unfold m47
  rw [m62f8_eq _ (by omega), Option.bind_some, m62f8_eq _ (by omega), Option.bind_some, guard_le (by omega)]
  rw [acc_loop (step := m47_l0 d) d.ctors (fun c => consts c.ty) _ (by omega) (fun a x b hl => by
      have hx := term_mem (d := d) (t := x.ty) (by unfold termsOf; rw [hl]; simp)
      have : (d.ctors.map fun c => consts c.ty).flatten.length = (a.map fun c => consts c.ty).flatten.length + (consts x.ty).length + (b.map fun c => consts c.ty).flatten.length := by rw [hl]; simp; omega
      unfold m47_l0
      dsimp only
      rw [hl, lt_mid, idx_mid]
      simp only [cond_true, Option.bind_some]
      rw [m62f8_eq _ (by omega), Option.bind_some, guard_le (by simp only [List.length_append]; omega)]) (fun s => by unfold m47_l0; dsimp only; rw [lt_end]; rfl), Option.bind_some]
  rw [m62f8_eq _ (by omega), Option.bind_some, guard_le (by simp only [List.length_append]; omega)]
  rw [acc_loop (step := m47_l1 d) d.rcr.rules consts _ (by omega) (fun a x b hl => by
      have hx := term_mem (d := d) (t := x) (by unfold termsOf; rw [hl]; simp)
      have : (d.rcr.rules.map consts).flatten.length = (a.map consts).flatten.length + (consts x).length + (b.map consts).flatten.length := by rw [hl]; simp; omega
      unfold m47_l1
      dsimp only
      rw [hl, lt_mid, idx_mid]
      simp only [cond_true, Option.bind_some]
      rw [m62f8_eq _ (by omega), Option.bind_some, guard_le (by simp only [List.length_append]; omega)]) (fun s => by unfold m47_l1; dsimp only; rw [lt_end]; rfl), Option.bind_some]
  rw [acc_loop (step := m47_l2 d) d.funs (fun f => consts f.ty) _ (by omega) (fun a x b hl => by
      have hx := term_mem (d := d) (t := x.ty) (by unfold termsOf; rw [hl]; simp)
      have : (d.funs.map fun c => consts c.ty).flatten.length = (a.map fun c => consts c.ty).flatten.length + (consts x.ty).length + (b.map fun c => consts c.ty).flatten.length := by rw [hl]; simp; omega
      unfold m47_l2
      dsimp only
      rw [hl, lt_mid, idx_mid]
      simp only [cond_true, Option.bind_some]
      rw [m62f8_eq _ (by omega), Option.bind_some, guard_le (by simp only [List.length_append]; omega)]) (fun s => by unfold m47_l2; dsimp only; rw [lt_end]; rfl), Option.bind_some]
  rw [acc_loop (step := m47_l3 d) d.funs (fun f => f.tree.cn) _ (by omega) (fun a x b hl => by
      have hx := fun_mem (d := d) (f := x) (by rw [hl]; simp)
      have h0 := congrArg (fun l : List Fn => (l.map fun f => consts f.ty).flatten.length) hl
      have h1 : (d.funs.map fun f => f.tree.cn).flatten.length = (a.map fun f => f.tree.cn).flatten.length + x.tree.cn.length + (b.map fun f => f.tree.cn).flatten.length := by rw [hl]; simp; omega
      unfold m47_l3
      dsimp only
      rw [hl, lt_mid, idx_mid]
      simp only [cond_true, Option.bind_some]
      unfold m63f10
      rw [rtree_ok FUEL x.tree _ (by unfold FUEL; omega) (by simp only [List.length_append]; omega)]; rfl) (fun s => by unfold m47_l3; dsimp only; rw [lt_end]; rfl), Option.bind_some]
  rw [m18_eq d (by omega), Option.bind_some]
  have e : ((((((consts d.ty ++ consts d.value) ++ (d.ctors.map fun c => consts c.ty).flatten) ++ consts d.rcr.ty) ++ (d.rcr.rules.map consts).flatten) ++ (d.funs.map fun f => consts f.ty).flatten) ++ (d.funs.map fun f => f.tree.cn).flatten) = mentioned d := by
    unfold mentioned termsOf
    simp only [List.map_append, List.map_cons, List.map_nil, List.flatten_append, List.flatten_cons, List.flatten_nil, List.append_nil, List.map_map, Function.comp_def, List.append_assoc]
  rw [e]
  rw [loop_fold (step := m47_l4 (mentioned d) (names d)) (mentioned d) (fun i (s : List Bs) => (s, i)) (addN (names d)) [] (uses d) (by omega)
    (fun a x b hl => by
      have hol := addL_len (names d) a []
      have hal : a.length < (mentioned d).length := mid_lt hl
      change (addL (names d) [] a).length ≤ _ at hol
      simp only [List.length_nil] at hol
      show m47_l4 (mentioned d) (names d) (addL (names d) [] a, (a.length : Int)) = _
      unfold m47_l4
      dsimp only
      rw [hl, lt_mid, idx_mid]
      simp only [cond_true, Option.bind_some]
      rw [m64_eq _ _ (by omega), m64_eq _ _ (by omega)]
      show _ = some (LO.next (addN (names d) (addL (names d) [] a) x, _))
      unfold addN
      by_cases h1 : x ∈ names d
      · simp [h1]
      · by_cases h2 : x ∈ addL (names d) [] a
        · simp [h1, h2]
        · rw [guard_le (by show _ + 1 ≤ _; omega)]
          simp [h1, h2])
    (by unfold m47_l4; dsimp only; rw [lt_end]; rfl)]
  rfl
end Go.Proofs.Ytijcchddnnnmdaa
namespace Go.Proofs.Ytijcchddnnnmdaa
open Go.RowKit Go.Shelf
set_option linter.unusedSimpArgs false
set_option linter.unusedVariables false
theorem fo_72_0 : fieldOff Try.prog 72 0 = some 0 := by kernel_rfl
theorem fo_72_1 : fieldOff Try.prog 72 1 = some 1 := by kernel_rfl
theorem ag_57 : tyAgg Try.prog 57 = some (false, 1) := by kernel_rfl
theorem ag_70 : tyAgg Try.prog 70 = some (false, 1) := by kernel_rfl
theorem ag_72 : tyAgg Try.prog 72 = some (true, 2) := by kernel_rfl
theorem sl_22 : tySlice Try.prog 22 = some (48, 23) := by kernel_rfl
theorem sl_54 : tySlice Try.prog 54 = some (3, 1) := by kernel_rfl
theorem sl_57 : tySlice Try.prog 57 = some (54, 1) := by kernel_rfl
theorem z_3 : tyZero Try.prog 3 = some [.int .i64 0] := by kernel_rfl
theorem z_48 : tyZero Try.prog 48 = some [.int .i64 0, .string ByteArray.empty, .int .i64 0, .int .i64 0, .int .i64 0, .string ByteArray.empty, .slice none 0 0, .slice none 0 0, .int .i64 0, .int .i64 0, .string ByteArray.empty, .slice none 0 0, .slice none 0 0, .int .i64 0, .slice none 0 0, .int .i64 0, .int .i64 0, .int .i64 0, .string ByteArray.empty, .slice none 0 0, .slice none 0 0, .slice none 0 0, .slice none 0 0] := by kernel_rfl
theorem z_54 : tyZero Try.prog 54 = some [.slice none 0 0] := by kernel_rfl
theorem z_72 : tyZero Try.prog 72 = some [.slice none 0 0, .map none] := by kernel_rfl
theorem bd_72 : IsStruct Try.prog 72 [(0, 1), (1, 1)] [.slice none 0 0, .map none] := ⟨by kernel_rfl, by kernel_rfl⟩
theorem el_3 : tyElem Try.prog 3 = some (1, 8) := by kernel_rfl
theorem el_54 : tyElem Try.prog 54 = some (1, 24) := by kernel_rfl
theorem mp_70 : tyMap Try.prog 70 = some (false, .one (.d (.v (.int .i64 0)))) := by kernel_rfl
theorem en_23 : Enters Try.prog 23 := enters_of Try.func23 (by kernel_rfl) rfl
theorem en_34 : Enters Try.prog 34 := enters_of Try.func34 (by kernel_rfl) rfl
def m23_l0 (x9 : (List Bs)) (s2 : Int × (GMap Bs Int)) (s3 : Int × (GMap Bs Int)) : Option (LO (Int × (GMap Bs Int)) (((GMap Bs Int)) ⊕ (((List (List Int)) × (GMap Bs Int)) ⊕ Unit ⊕ Unit))) :=
  cond (decide (s3.1 < (x9.length : Int)))
    (Option.bind (idx x9 s3.1) fun (x12 : Bs) =>
  cond (gmHas s3.2 x12)
    (some (.done (.inr (.inr (.inl ())))))
    (some (.next ((w64 (s3.1 + 1)), (gmSet s3.2 x12 s2.1)))))
    (some (.done (.inl s3.2)))
def m23_l1 (a0 : List Dcl) (s2 : Int × (GMap Bs Int)) : Option (LO (Int × (GMap Bs Int)) (((GMap Bs Int)) ⊕ (((List (List Int)) × (GMap Bs Int)) ⊕ Unit ⊕ Unit))) :=
  cond (decide (s2.1 < (a0.length : Int)))
    (Option.bind (idx a0 s2.1) fun (x8 : Dcl) =>
  Option.bind (m37 x8) fun (x9 : (List Bs)) =>
  Option.bind (loopN (m23_l0 x9 s2) FUEL (0, s2.2)) (Sum.elim (fun (o10 : (GMap Bs Int)) => some (.next ((w64 (s2.1 + 1)), o10))) (fun o => some (.done (.inr o)))))
    (some (.done (.inl s2.2)))
def m23_l2 (x10 : (List Bs)) (o6 : (GMap Bs Int)) (s3 : (List Int) × Int) : Option (LO ((List Int) × Int) (((List Int)) ⊕ (((List (List Int)) × (GMap Bs Int)) ⊕ Unit ⊕ Unit))) :=
  cond (decide (s3.2 < (x10.length : Int)))
    (Option.bind (idx x10 s3.2) fun (x13 : Bs) =>
  cond (!(gmHas o6 x13))
    (some (.done (.inr (.inr (.inr ())))))
    (guardO (Nat.ble (s3.1.length + ([(gmVal o6 x13)]).length) 1000000000)
  (some (.next ((s3.1 ++ ([(gmVal o6 x13)])), (w64 (s3.2 + 1)))))))
    (some (.done (.inl s3.1)))
def m23_l3 (a0 : List Dcl) (o6 : (GMap Bs Int)) (s2 : Int × (List (List Int))) : Option (LO (Int × (List (List Int))) (((List (List Int))) ⊕ (((List (List Int)) × (GMap Bs Int)) ⊕ Unit ⊕ Unit))) :=
  cond (decide (s2.1 < (a0.length : Int)))
    (Option.bind (idx a0 s2.1) fun (x9 : Dcl) =>
  Option.bind (m53 x9) fun (x10 : (List Bs)) =>
  Option.bind (loopN (m23_l2 x10 o6) FUEL (([] : List Int), 0)) (Sum.elim (fun (o11 : (List Int)) => Option.bind (sortF o11) fun (x12 : List Int) =>
  Option.bind (compactF x12 ((Enc.encL o11).length)) fun (x13 : List Int) =>
  guardO (Nat.ble (s2.2.length + ([x13]).length) 1000000000)
  (some (.next ((w64 (s2.1 + 1)), (s2.2 ++ ([x13])))))) (fun o => some (.done (.inr o)))))
    (some (.done (.inl s2.2)))
def m23 (a0 : List Dcl) : Option ((List (List Int)) × Int) :=
  Option.bind (Option.bind (loopN (m23_l1 a0) FUEL (0, gmNil)) (Sum.elim (fun (o6 : (GMap Bs Int)) => Option.bind (loopN (m23_l3 a0 o6) FUEL (0, ([] : List (List Int)))) (Sum.elim (fun (o7 : (List (List Int))) => some (.inl (o7, o6))) (fun o => some o))) (fun o => some o))) (Sum.elim (fun (y1 : (List (List Int)) × (GMap Bs Int)) => some (y1.1, 0)) (Sum.elim (fun (y2 : Unit) => some (([] : List (List Int)), 8)) (fun (y3 : Unit) => some (([] : List (List Int)), 9))))
end Go.Proofs.Ytijcchddnnnmdaa
namespace Go.Proofs.Ytijcchddnnnmdaa
open Go.RowKit Go.Shelf
set_option linter.unusedSimpArgs false
set_option linter.unusedVariables false
theorem en_25 : Enters Try.prog 25 := enters_of Try.func25 (by kernel_rfl) rfl
theorem en_46 : Enters Try.prog 46 := enters_of Try.func46 (by kernel_rfl) rfl
theorem en_48 : Enters Try.prog 48 := enters_of Try.func48 (by kernel_rfl) rfl
theorem en_49 : Enters Try.prog 49 := enters_of Try.func49 (by kernel_rfl) rfl
def m48_l0 (a0 : List Dcl) (a1 : Bs) (s1 : Int) : Option (LO Int (Unit ⊕ Int)) :=
  cond (decide (s1 < (a0.length : Int)))
    (Option.bind (idx a0 s1) fun (x3 : Dcl) =>
  Option.bind (m18 x3) fun (x4 : (List Bs)) =>
  Option.bind (m61 x4 a1) fun (x5 : Bool) =>
  cond x5
    (some (.done (.inr s1)))
    (some (.next (w64 (s1 + 1)))))
    (some (.done (.inl ())))
def m48 (a0 : List Dcl) (a1 : Bs) : Option Int :=
  Option.bind (loopN (m48_l0 a0 a1) FUEL 0) (Sum.elim (fun (o1 : Unit) => some (-1)) (fun o => some o))
set_option maxRecDepth 100000 in
set_option maxHeartbeats 8000000 in
theorem m48_ok (a0 : List Dcl) (a1 : Bs) (r : Int) (h0 : m48 a0 a1 = some r) : Fun Try.prog 48 [.one (dS a0), .one (dS8 a1)] (resOf [.one (dI r)]) := by
  unfold m48 at h0
  refine Fun.of_bodyM 9 20 Try.func48 rfl en_48 rfl (lb rfl) (fun S w => ?_)
  simp only [entry]
  refine XC.seq <| XC.region <| rA rfl rfl rfl <| XL.nil <| XQ.seq <| XC.seq <| XC.seq <| XC.region <| rA rfl rfl rfl <| XL.nil <| XQ.seq <| XC.block ?_
  refine XC.joinX 0 (fun (o1 : Unit) => ⟨[], [], [], 0, 20, []⟩) (fun (o1 : Unit) => (some (-1)) = some r) ?_ ?_
  ·
   refine bindK h0 (fun o2 hl1 h0 => ?_)
   refine XC.loopM (m48_l0 a0 a1) (fun s1 => ⟨[(0, .v (.one (dS a0))), (1, .v (.one (dS8 a1))), (5, .v (.one (dI s1)))], [], [], 0, 20, []⟩) 0 o2 (stle (tR rfl (tR rfl (tR rfl tZ))) hZ kZ rfl (Nat.zero_le _) rfl rfl rfl bZ rfl rfl) hl1 (fun s1 n1 oo1 h1 ho1 => ?_)
   unfold m48_l0 at h1
   refine XC.seq <| XC.seq <| XC.region <| rM rfl rfl rfl <| rM rfl rfl rfl <| rR rfl rfl rfl (RO.lenE (α := Dcl) sl_22 rfl (.d _)) <| rR rfl rfl rfl (RO.binInt rfl rfl rfl) <| XL.nil <| XQ.seq ?_
   refine XC.cond (b := (decide (s1 < (a0.length : Int)))) rfl (fun c3 => ?_) (fun c3 => ?_)
   ·
    replace h1 := condT c3 h1
    refine XC.skip <| XQ.seq <| XC.seq <| XC.block <| XC.seq <| XC.region <| rM rfl rfl rfl <| rM rfl rfl rfl ?_
    refine bindK h1 (fun x4 hx4 h1 => ?_)
    refine rR rfl rfl rfl (RO.indexE (α := Dcl) sl_22 rfl (.d _) rfl hx4) <| rR rfl rfl rfl (RO.loadPelAgg ag_48 rfl rfl rfl) ?_
    refine bindK h1 (fun x5 hx5 h1 => ?_)
    refine XL.put rfl rfl (lb rfl) (OpOK.callFun (m18_ok x4 x5 hx5) rfl (.cons (.agg (.cons (.d _) (.cons (.d _) (.cons (.d _) (.cons (.d _) (.cons (.d _) (.cons (.d _) (.cons (.d _) (.cons (.d _) (.cons (.d _) (.cons (.d _) (.cons (.d _) (.cons (.d _) (.cons (.d _) (.cons (.d _) (.cons (.d _) (.cons (.d _) (.cons (.d _) (.cons (.d _) (.cons (.d _) (.cons (.d _) (.cons (.d _) (.cons (.d _) (.cons (.d _) .nil)))))))))))))))))))))))) .nil)) <| rM rfl rfl rfl ?_
    refine bindK h1 (fun x6 hx6 h1 => ?_)
    refine XL.put rfl rfl (lb rfl) (OpOK.callFun (m61_ok x5 a1 x6 hx6) rfl (.cons (.one (.d _)) (.cons (.one (.d _)) .nil))) <| XL.nil <| XQ.seq ?_
    refine XC.cond (b := x6) rfl (fun c7 => ?_) (fun c7 => ?_)
    ·
     replace h1 := condT c7 h1
     refine XC.seq <| XC.region <| rM rfl rfl rfl <| rA rfl rfl rfl <| XL.nil <| XQ.seq <| XC.ret ?_
     have e_ := Option.some.inj h1
     subst e_
     have e_ : _ = _ := ho1
     subst e_
     try dsimp only [Sum.elim_inl, Sum.elim_inr] at h0
     have e_ := Option.some.inj h0
     subst e_
     exact XQ.retF (fun _ _ h => h) rfl (RAs.tmp rfl .nil) (.cons (.one (.d _)) .nil)
    ·
     replace h1 := condF c7 h1
     refine XC.skip <| XQ.inBlock <| XQ.seq <| XC.region <| rM rfl rfl rfl <| rR rfl rfl rfl (RO.binInt rfl rfl rfl) <| rA rfl rfl rfl <| XL.nil ?_
     have e_ := Option.some.inj h1
     subst e_
     refine XQ.nextM (w64 (s1 + 1)) (stle (tR rfl (tR rfl (tR rfl tZ))) hZ kZ rfl (Nat.zero_le _) rfl rfl rfl bZ rfl rfl) ho1
   ·
    replace h1 := condF c3 h1
    refine XC.exit <| XQ.thenE <| XQ.thenE ?_
    have e_ := Option.some.inj h1
    subst e_
    have e_ : _ = _ := ho1
    subst e_
    exact XQ.joinX () (stle tZ hZ kZ rfl (Nat.zero_le _) rfl rfl rfl bZ rfl rfl) h0
  ·
   intro o1 h0
   refine XQ.blockX <| XQ.seq <| XC.seq <| XC.region <| rA rfl rfl rfl <| XL.nil <| XQ.seq <| XC.ret ?_
   have e_ := Option.some.inj h0
   subst e_
   exact XQ.retF (fun _ _ h => h) rfl (RAs.tmp rfl .nil) (.cons (.one (.d _)) .nil)
def m46_l0 (x4 : (List Bs)) (s2 : (List Bs) × Int) : Option (LO ((List Bs) × Int) (((List Bs)) ⊕ Int)) :=
  cond (decide (s2.2 < (x4.length : Int)))
    (Option.bind (idx x4 s2.2) fun (x7 : Bs) =>
  Option.bind (m61 s2.1 x7) fun (x8 : Bool) =>
  cond x8
    (some (.done (.inr 8)))
    (Option.bind (idx x4 s2.2) fun (x10 : Bs) =>
  guardO (Nat.ble (s2.1.length + ([x10]).length) 1000000000)
  (some (.next ((s2.1 ++ ([x10])), (w64 (s2.2 + 1)))))))
    (some (.done (.inl s2.1)))
def m46_l1 (a0 : List Dcl) (s1 : (List Bs) × Int) : Option (LO ((List Bs) × Int) (((List Bs)) ⊕ Int)) :=
  cond (decide (s1.2 < (a0.length : Int)))
    (Option.bind (idx a0 s1.2) fun (x3 : Dcl) =>
  Option.bind (m18 x3) fun (x4 : (List Bs)) =>
  Option.bind (loopN (m46_l0 x4) FUEL (s1.1, 0)) (Sum.elim (fun (o5 : (List Bs)) => some (.next (o5, (w64 (s1.2 + 1))))) (fun o => some (.done (.inr o)))))
    (some (.done (.inl s1.1)))
def m46_l2 (x5 : (List Bs)) (o1 : (List Bs)) (s2 : Int) : Option (LO Int (Unit ⊕ Int)) :=
  cond (decide (s2 < (x5.length : Int)))
    (Option.bind (idx x5 s2) fun (x8 : Bs) =>
  Option.bind (m61 o1 x8) fun (x9 : Bool) =>
  cond (!x9)
    (some (.done (.inr 9)))
    (some (.next (w64 (s2 + 1)))))
    (some (.done (.inl ())))
def m46_l3 (a0 : List Dcl) (o1 : (List Bs)) (s1 : Int) : Option (LO Int (Unit ⊕ Int)) :=
  cond (decide (s1 < (a0.length : Int)))
    (Option.bind (idx a0 s1) fun (x4 : Dcl) =>
  Option.bind (m47 x4) fun (x5 : (List Bs)) =>
  Option.bind (loopN (m46_l2 x5 o1) FUEL 0) (Sum.elim (fun (o6 : Unit) => some (.next (w64 (s1 + 1)))) (fun o => some (.done (.inr o)))))
    (some (.done (.inl ())))
def m46 (a0 : List Dcl) : Option Int :=
  Option.bind (loopN (m46_l1 a0) FUEL (([] : List Bs), 0)) (Sum.elim (fun (o1 : (List Bs)) => Option.bind (loopN (m46_l3 a0 o1) FUEL 0) (Sum.elim (fun (o2 : Unit) => some 0) (fun o => some o))) (fun o => some o))
set_option maxRecDepth 100000 in
set_option maxHeartbeats 8000000 in
theorem m46_ok (a0 : List Dcl) (r : Int) (h0 : m46 a0 = some r) : Fun Try.prog 46 [.one (dS a0)] (resOf [.one (dI r)]) := by
  unfold m46 at h0
  refine Fun.of_bodyM 9 64 Try.func46 rfl en_46 rfl (lb rfl) (fun S w => ?_)
  simp only [entry]
  refine XC.seq <| XC.region <| rA rfl rfl rfl <| XL.nil <| XQ.seq <| XC.seq <| XC.region <| rA rfl rfl rfl <| XL.nil <| XQ.seq <| XC.seq <| XC.seq <| XC.region <| rA rfl rfl rfl ?_
  refine XL.nil <| XQ.seq <| XC.block ?_
  refine XC.joinX 0 (fun (o1 : (List Bs)) => ⟨[(0, .v (.one (dS a0))), (3, .v (.one (dA 0 o1)))], [], [(0, some ⟨9, 1, (Enc.encL o1).length, []⟩)], 1, 64, []⟩) (fun (o1 : (List Bs)) => (Option.bind (loopN (m46_l3 a0 o1) FUEL 0) (Sum.elim (fun (o2 : Unit) => some 0) (fun o => some o))) = some r) ?_ ?_
  ·
   refine XC.adoptT (t := 3) 9 1 rfl ?_
   refine bindK h0 (fun o2 hl1 h0 => ?_)
   refine XC.loopM (m46_l1 a0) (fun s1 => ⟨[(0, .v (.one (dS a0))), (3, .v (.one (dA 0 s1.1))), (4, .v (.one (dI s1.2)))], [], [(0, some ⟨9, 1, (Enc.encL s1.1).length, []⟩)], 1, 64, []⟩) (([] : List Bs), 0) o2 (stle (tR rfl (tR rfl (tR rfl tZ))) hZ (kR rfl kZ) rfl (Nat.zero_le _) rfl rfl rfl bZ rfl rfl) hl1 (fun s1 n1 oo1 h1 ho1 => ?_)
   unfold m46_l1 at h1
   refine XC.seq <| XC.seq <| XC.region <| rM rfl rfl rfl <| rM rfl rfl rfl <| rR rfl rfl rfl (RO.lenE (α := Dcl) sl_22 rfl (.d _)) <| rR rfl rfl rfl (RO.binInt rfl rfl rfl) <| XL.nil <| XQ.seq ?_
   refine XC.cond (b := (decide (s1.2 < (a0.length : Int)))) rfl (fun c3 => ?_) (fun c3 => ?_)
   ·
    replace h1 := condT c3 h1
    refine XC.skip <| XQ.seq <| XC.seq <| XC.block <| XC.seq <| XC.region <| rM rfl rfl rfl <| rM rfl rfl rfl ?_
    refine bindK h1 (fun x4 hx4 h1 => ?_)
    refine rR rfl rfl rfl (RO.indexE (α := Dcl) sl_22 rfl (.d _) rfl hx4) <| rR rfl rfl rfl (RO.loadPelAgg ag_48 rfl rfl rfl) ?_
    refine bindK h1 (fun x5 hx5 h1 => ?_)
    refine XL.put rfl rfl (lb rfl) (OpOK.callFun (m18_ok x4 x5 hx5) rfl (.cons (.agg (.cons (.d _) (.cons (.d _) (.cons (.d _) (.cons (.d _) (.cons (.d _) (.cons (.d _) (.cons (.d _) (.cons (.d _) (.cons (.d _) (.cons (.d _) (.cons (.d _) (.cons (.d _) (.cons (.d _) (.cons (.d _) (.cons (.d _) (.cons (.d _) (.cons (.d _) (.cons (.d _) (.cons (.d _) (.cons (.d _) (.cons (.d _) (.cons (.d _) (.cons (.d _) .nil)))))))))))))))))))))))) .nil)) <| rA rfl rfl rfl <| XL.nil <| XQ.seq <| XC.seq <| XC.region <| rA rfl rfl rfl <| XL.nil <| XQ.seq <| XC.block ?_
    refine XC.joinX 2 (fun (o6 : (List Bs)) => ⟨[(0, .v (.one (dS a0))), (3, .v (.one (dA 0 o6))), (4, .v (.one (dI s1.2)))], [], [(0, some ⟨9, 1, (Enc.encL o6).length, []⟩)], 1, 64, []⟩) (fun (o6 : (List Bs)) => (some (.next (o6, (w64 (s1.2 + 1))))) = some oo1) ?_ ?_
    ·
     refine bindK h1 (fun o7 hl2 h1 => ?_)
     refine XC.loopM (m46_l0 x5) (fun s2 => ⟨[(0, .v (.one (dS a0))), (3, .v (.one (dA 0 s2.1))), (4, .v (.one (dI s1.2))), (5, .v (.one (dS x5))), (6, .v (.one (dI s2.2)))], [], [(0, some ⟨9, 1, (Enc.encL s2.1).length, []⟩)], 1, 64, []⟩) (s1.1, 0) o7 (stle (tR rfl (tR rfl (tR rfl (tR rfl (tR rfl tZ))))) hZ (kR rfl kZ) rfl (Nat.zero_le _) rfl rfl rfl bZ rfl rfl) hl2 (fun s2 n2 oo2 h2 ho2 => ?_)
     unfold m46_l0 at h2
     refine XC.seq <| XC.seq <| XC.region <| rM rfl rfl rfl <| rM rfl rfl rfl <| rR rfl rfl rfl (RO.lenE (α := Bs) sl_23 rfl (.d _)) <| rR rfl rfl rfl (RO.binInt rfl rfl rfl) <| XL.nil <| XQ.seq ?_
     refine XC.cond (b := (decide (s2.2 < (x5.length : Int)))) rfl (fun c8 => ?_) (fun c8 => ?_)
     ·
      replace h2 := condT c8 h2
      refine XC.skip <| XQ.seq <| XC.seq <| XC.block <| XC.seq <| XC.seq <| XC.region <| rM rfl rfl rfl <| rM rfl rfl rfl <| rM rfl rfl rfl ?_
      refine bindK h2 (fun x9 hx9 h2 => ?_)
      refine rR rfl rfl rfl (RO.indexE (α := Bs) sl_23 rfl (.d _) rfl hx9) <| rR rfl rfl rfl (RO.loadPel ag_9 rfl rfl) ?_
      refine bindK h2 (fun x10 hx10 h2 => ?_)
      refine XL.put rfl rfl (lb rfl) (OpOK.callFun (m61_ok s2.1 x9 x10 hx10) rfl (.cons (.one (.app _ _ _)) (.cons (.one (.d _)) .nil))) <| XL.nil <| XQ.seq ?_
      refine XC.cond (b := x10) rfl (fun c11 => ?_) (fun c11 => ?_)
      ·
       replace h2 := condT c11 h2
       refine XC.seq <| XC.region <| rA rfl rfl rfl <| XL.nil <| XQ.seq <| XC.ret ?_
       have e_ := Option.some.inj h2
       subst e_
       have e_ : _ = _ := ho2
       subst e_
       try dsimp only [Sum.elim_inl, Sum.elim_inr] at h1
       have e_ := Option.some.inj h1
       subst e_
       have e_ : _ = _ := ho1
       subst e_
       try dsimp only [Sum.elim_inl, Sum.elim_inr] at h0
       have e_ := Option.some.inj h0
       subst e_
       exact XQ.retF (fun _ _ h => h) rfl (RAs.tmp rfl .nil) (.cons (.one (.d _)) .nil)
      ·
       replace h2 := condF c11 h2
       refine XC.skip <| XQ.seq <| XC.region <| rM rfl rfl rfl <| rM rfl rfl rfl <| rM rfl rfl rfl ?_
       refine bindK h2 (fun x12 hx12 h2 => ?_)
       refine rR rfl rfl rfl (RO.indexE (α := Bs) sl_23 rfl (.d _) rfl hx12) <| rR rfl rfl rfl (RO.loadPel ag_9 rfl rfl) <| XL.put rfl rfl (lb rfl) (OpOK.lit1E (α := Bs) (x12) sl_23 z_9 rfl rfl (lb rfl) (lb rfl) rfl rfl (.cons (.d _) .nil) rfl) ?_
       refine guardK h2 (fun g13 h2 => ?_)
       refine XL.put rfl rfl (lb rfl) (OpOK.appendE (α := Bs) sl_23 el_9 rfl rfl rfl rfl rfl (.app _ _) g13) <| rA rfl rfl rfl <| XL.nil <| XQ.inBlock <| XQ.seq <| XC.region <| rM rfl rfl rfl <| rR rfl rfl rfl (RO.binInt rfl rfl rfl) <| rA rfl rfl rfl <| XL.nil ?_
       have e_ := Option.some.inj h2
       subst e_
       refine XQ.nextM ((s2.1 ++ ([x12])), (w64 (s2.2 + 1))) (stle (tR rfl (tR rfl (tR rfl (tR rfl (tR rfl tZ))))) hZ (kR rfl kZ) rfl (Nat.zero_le _) rfl rfl rfl bZ rfl rfl) ho2
     ·
      replace h2 := condF c8 h2
      refine XC.exit <| XQ.thenE <| XQ.thenE ?_
      have e_ := Option.some.inj h2
      subst e_
      have e_ : _ = _ := ho2
      subst e_
      exact XQ.joinX s2.1 (stle (tR rfl (tR rfl (tR rfl tZ))) hZ (kR rfl kZ) rfl (Nat.zero_le _) rfl rfl rfl bZ rfl rfl) h1
    ·
     intro o6 h1
     refine XQ.blockX <| XQ.inBlock <| XQ.seq <| XC.region <| rM rfl rfl rfl <| rR rfl rfl rfl (RO.binInt rfl rfl rfl) <| rA rfl rfl rfl <| XL.nil ?_
     have e_ := Option.some.inj h1
     subst e_
     refine XQ.nextM (o6, (w64 (s1.2 + 1))) (stle (tR rfl (tR rfl (tR rfl tZ))) hZ (kR rfl kZ) rfl (Nat.zero_le _) rfl rfl rfl bZ rfl rfl) ho1
   ·
    replace h1 := condF c3 h1
    refine XC.exit <| XQ.thenE <| XQ.thenE ?_
    have e_ := Option.some.inj h1
    subst e_
    have e_ : _ = _ := ho1
    subst e_
    exact XQ.joinX s1.1 (stle (tR rfl (tR rfl tZ)) hZ (kR rfl kZ) rfl (Nat.zero_le _) rfl rfl rfl bZ rfl rfl) h0
  ·
   intro o1 h0
   refine XQ.blockX <| XQ.seq <| XC.seq <| XC.seq <| XC.region <| rA rfl rfl rfl <| XL.nil <| XQ.seq <| XC.block ?_
   refine XC.joinX 4 (fun (o14 : Unit) => ⟨[], [], [(0, some ⟨9, 1, (Enc.encL o1).length, []⟩)], 1, 64, []⟩) (fun (o14 : Unit) => (some 0) = some r) ?_ ?_
   ·
    refine bindK h0 (fun o15 hl1 h0 => ?_)
    refine XC.loopM (m46_l3 a0 o1) (fun s1 => ⟨[(0, .v (.one (dS a0))), (3, .v (.one (dA 0 o1))), (7, .v (.one (dI s1)))], [], [(0, some ⟨9, 1, (Enc.encL o1).length, []⟩)], 1, 64, []⟩) 0 o15 (stle (tR rfl (tR rfl (tR rfl tZ))) hZ (kR rfl kZ) rfl (Nat.zero_le _) rfl rfl rfl bZ rfl rfl) hl1 (fun s1 n1 oo1 h1 ho1 => ?_)
    unfold m46_l3 at h1
    refine XC.seq <| XC.seq <| XC.region <| rM rfl rfl rfl <| rM rfl rfl rfl <| rR rfl rfl rfl (RO.lenE (α := Dcl) sl_22 rfl (.d _)) <| rR rfl rfl rfl (RO.binInt rfl rfl rfl) <| XL.nil <| XQ.seq ?_
    refine XC.cond (b := (decide (s1 < (a0.length : Int)))) rfl (fun c16 => ?_) (fun c16 => ?_)
    ·
     replace h1 := condT c16 h1
     refine XC.skip <| XQ.seq <| XC.seq <| XC.block <| XC.seq <| XC.region <| rM rfl rfl rfl <| rM rfl rfl rfl ?_
     refine bindK h1 (fun x17 hx17 h1 => ?_)
     refine rR rfl rfl rfl (RO.indexE (α := Dcl) sl_22 rfl (.d _) rfl hx17) <| rR rfl rfl rfl (RO.loadPelAgg ag_48 rfl rfl rfl) ?_
     refine bindK h1 (fun x18 hx18 h1 => ?_)
     refine XL.put rfl rfl (lb rfl) (OpOK.callFun (m47_ok x17 x18 hx18) rfl (.cons (.agg (.cons (.d _) (.cons (.d _) (.cons (.d _) (.cons (.d _) (.cons (.d _) (.cons (.d _) (.cons (.d _) (.cons (.d _) (.cons (.d _) (.cons (.d _) (.cons (.d _) (.cons (.d _) (.cons (.d _) (.cons (.d _) (.cons (.d _) (.cons (.d _) (.cons (.d _) (.cons (.d _) (.cons (.d _) (.cons (.d _) (.cons (.d _) (.cons (.d _) (.cons (.d _) .nil)))))))))))))))))))))))) .nil)) <| rA rfl rfl rfl <| XL.nil <| XQ.seq <| XC.seq <| XC.region <| rA rfl rfl rfl <| XL.nil <| XQ.seq <| XC.block ?_
     refine XC.joinX 6 (fun (o19 : Unit) => ⟨[(0, .v (.one (dS a0))), (3, .v (.one (dA 0 o1))), (7, .v (.one (dI s1)))], [], [(0, some ⟨9, 1, (Enc.encL o1).length, []⟩)], 1, 64, []⟩) (fun (o19 : Unit) => (some (.next (w64 (s1 + 1)))) = some oo1) ?_ ?_
     ·
      refine bindK h1 (fun o20 hl2 h1 => ?_)
      refine XC.loopM (m46_l2 x18 o1) (fun s2 => ⟨[(0, .v (.one (dS a0))), (3, .v (.one (dA 0 o1))), (7, .v (.one (dI s1))), (8, .v (.one (dS x18))), (9, .v (.one (dI s2)))], [], [(0, some ⟨9, 1, (Enc.encL o1).length, []⟩)], 1, 64, []⟩) 0 o20 (stle (tR rfl (tR rfl (tR rfl (tR rfl (tR rfl tZ))))) hZ (kR rfl kZ) rfl (Nat.zero_le _) rfl rfl rfl bZ rfl rfl) hl2 (fun s2 n2 oo2 h2 ho2 => ?_)
      unfold m46_l2 at h2
      refine XC.seq <| XC.seq <| XC.region <| rM rfl rfl rfl <| rM rfl rfl rfl <| rR rfl rfl rfl (RO.lenE (α := Bs) sl_23 rfl (.d _)) <| rR rfl rfl rfl (RO.binInt rfl rfl rfl) <| XL.nil <| XQ.seq ?_
      refine XC.cond (b := (decide (s2 < (x18.length : Int)))) rfl (fun c21 => ?_) (fun c21 => ?_)
      ·
       replace h2 := condT c21 h2
       refine XC.skip <| XQ.seq <| XC.seq <| XC.block <| XC.seq <| XC.region <| rM rfl rfl rfl <| rM rfl rfl rfl <| rM rfl rfl rfl ?_
       refine bindK h2 (fun x22 hx22 h2 => ?_)
       refine rR rfl rfl rfl (RO.indexE (α := Bs) sl_23 rfl (.d _) rfl hx22) <| rR rfl rfl rfl (RO.loadPel ag_9 rfl rfl) ?_
       refine bindK h2 (fun x23 hx23 h2 => ?_)
       refine XL.put rfl rfl (lb rfl) (OpOK.callFun (m61_ok o1 x22 x23 hx23) rfl (.cons (.one (.app _ _ _)) (.cons (.one (.d _)) .nil))) <| rR rfl rfl rfl (RO.not rfl) <| XL.nil <| XQ.seq ?_
       refine XC.cond (b := (!x23)) rfl (fun c24 => ?_) (fun c24 => ?_)
       ·
        replace h2 := condT c24 h2
        refine XC.seq <| XC.region <| rA rfl rfl rfl <| XL.nil <| XQ.seq <| XC.ret ?_
        have e_ := Option.some.inj h2
        subst e_
        have e_ : _ = _ := ho2
        subst e_
        try dsimp only [Sum.elim_inl, Sum.elim_inr] at h1
        have e_ := Option.some.inj h1
        subst e_
        have e_ : _ = _ := ho1
        subst e_
        try dsimp only [Sum.elim_inl, Sum.elim_inr] at h0
        have e_ := Option.some.inj h0
        subst e_
        exact XQ.retF (fun _ _ h => h) rfl (RAs.tmp rfl .nil) (.cons (.one (.d _)) .nil)
       ·
        replace h2 := condF c24 h2
        refine XC.skip <| XQ.inBlock <| XQ.seq <| XC.region <| rM rfl rfl rfl <| rR rfl rfl rfl (RO.binInt rfl rfl rfl) <| rA rfl rfl rfl <| XL.nil ?_
        have e_ := Option.some.inj h2
        subst e_
        refine XQ.nextM (w64 (s2 + 1)) (stle (tR rfl (tR rfl (tR rfl (tR rfl (tR rfl tZ))))) hZ (kR rfl kZ) rfl (Nat.zero_le _) rfl rfl rfl bZ rfl rfl) ho2
      ·
       replace h2 := condF c21 h2
       refine XC.exit <| XQ.thenE <| XQ.thenE ?_
       have e_ := Option.some.inj h2
       subst e_
       have e_ : _ = _ := ho2
       subst e_
       exact XQ.joinX () (stle (tR rfl (tR rfl (tR rfl tZ))) hZ (kR rfl kZ) rfl (Nat.zero_le _) rfl rfl rfl bZ rfl rfl) h1
     ·
      intro o19 h1
      refine XQ.blockX <| XQ.inBlock <| XQ.seq <| XC.region <| rM rfl rfl rfl <| rR rfl rfl rfl (RO.binInt rfl rfl rfl) <| rA rfl rfl rfl <| XL.nil ?_
      have e_ := Option.some.inj h1
      subst e_
      refine XQ.nextM (w64 (s1 + 1)) (stle (tR rfl (tR rfl (tR rfl tZ))) hZ (kR rfl kZ) rfl (Nat.zero_le _) rfl rfl rfl bZ rfl rfl) ho1
    ·
     replace h1 := condF c16 h1
     refine XC.exit <| XQ.thenE <| XQ.thenE ?_
     have e_ := Option.some.inj h1
     subst e_
     have e_ : _ = _ := ho1
     subst e_
     exact XQ.joinX () (stle tZ hZ (kR rfl kZ) rfl (Nat.zero_le _) rfl rfl rfl bZ rfl rfl) h0
   ·
    intro o14 h0
    refine XQ.blockX <| XQ.seq <| XC.seq <| XC.region <| rA rfl rfl rfl <| XL.nil <| XQ.seq <| XC.ret ?_
    have e_ := Option.some.inj h0
    subst e_
    exact XQ.retF (fun _ _ h => h) rfl (RAs.tmp rfl .nil) (.cons (.one (.d _)) .nil)
def m49_l0 (a0 : List Int) (a1 : Int) (s1 : Int) : Option (LO Int (Unit ⊕ Bool)) :=
  cond (decide (s1 < (a0.length : Int)))
    (Option.bind (idx a0 s1) fun (x3 : Int) =>
  cond (x3 == a1)
    (some (.done (.inr true)))
    (some (.next (w64 (s1 + 1)))))
    (some (.done (.inl ())))
def m49 (a0 : List Int) (a1 : Int) : Option Bool :=
  Option.bind (loopN (m49_l0 a0 a1) FUEL 0) (Sum.elim (fun (o1 : Unit) => some false) (fun o => some o))
set_option maxRecDepth 100000 in
set_option maxHeartbeats 8000000 in
theorem m49_ok (a0 : List Int) (a1 : Int) (r : Bool) (h0 : m49 a0 a1 = some r) : Fun Try.prog 49 [.one (dS a0), .one (dI a1)] (resOf [.one (dB r)]) := by
  unfold m49 at h0
  refine Fun.of_bodyM 9 18 Try.func49 rfl en_49 rfl (lb rfl) (fun S w => ?_)
  simp only [entry]
  refine XC.seq <| XC.region <| rA rfl rfl rfl <| XL.nil <| XQ.seq <| XC.seq <| XC.seq <| XC.region <| rA rfl rfl rfl <| XL.nil <| XQ.seq <| XC.block ?_
  refine XC.joinX 0 (fun (o1 : Unit) => ⟨[], [], [], 0, 18, []⟩) (fun (o1 : Unit) => (some false) = some r) ?_ ?_
  ·
   refine bindK h0 (fun o2 hl1 h0 => ?_)
   refine XC.loopM (m49_l0 a0 a1) (fun s1 => ⟨[(0, .v (.one (dS a0))), (1, .v (.one (dI a1))), (5, .v (.one (dI s1)))], [], [], 0, 18, []⟩) 0 o2 (stle (tR rfl (tR rfl (tR rfl tZ))) hZ kZ rfl (Nat.zero_le _) rfl rfl rfl bZ rfl rfl) hl1 (fun s1 n1 oo1 h1 ho1 => ?_)
   unfold m49_l0 at h1
   refine XC.seq <| XC.seq <| XC.region <| rM rfl rfl rfl <| rM rfl rfl rfl <| rR rfl rfl rfl (RO.lenE (α := Int) sl_54 rfl (.d _)) <| rR rfl rfl rfl (RO.binInt rfl rfl rfl) <| XL.nil <| XQ.seq ?_
   refine XC.cond (b := (decide (s1 < (a0.length : Int)))) rfl (fun c3 => ?_) (fun c3 => ?_)
   ·
    replace h1 := condT c3 h1
    refine XC.skip <| XQ.seq <| XC.seq <| XC.block <| XC.seq <| XC.region <| rM rfl rfl rfl <| rM rfl rfl rfl ?_
    refine bindK h1 (fun x4 hx4 h1 => ?_)
    refine rR rfl rfl rfl (RO.indexE (α := Int) sl_54 rfl (.d _) rfl hx4) <| rR rfl rfl rfl (RO.loadPel ag_3 rfl rfl) <| rM rfl rfl rfl <| rR rfl rfl rfl (RO.binInt rfl rfl rfl) <| XL.nil <| XQ.seq ?_
    refine XC.cond (b := (x4 == a1)) rfl (fun c5 => ?_) (fun c5 => ?_)
    ·
     replace h1 := condT c5 h1
     refine XC.seq <| XC.region <| rA rfl rfl rfl <| XL.nil <| XQ.seq <| XC.ret ?_
     have e_ := Option.some.inj h1
     subst e_
     have e_ : _ = _ := ho1
     subst e_
     try dsimp only [Sum.elim_inl, Sum.elim_inr] at h0
     have e_ := Option.some.inj h0
     subst e_
     exact XQ.retF (fun _ _ h => h) rfl (RAs.tmp rfl .nil) (.cons (.one (.d _)) .nil)
    ·
     replace h1 := condF c5 h1
     refine XC.skip <| XQ.inBlock <| XQ.seq <| XC.region <| rM rfl rfl rfl <| rR rfl rfl rfl (RO.binInt rfl rfl rfl) <| rA rfl rfl rfl <| XL.nil ?_
     have e_ := Option.some.inj h1
     subst e_
     refine XQ.nextM (w64 (s1 + 1)) (stle (tR rfl (tR rfl (tR rfl tZ))) hZ kZ rfl (Nat.zero_le _) rfl rfl rfl bZ rfl rfl) ho1
   ·
    replace h1 := condF c3 h1
    refine XC.exit <| XQ.thenE <| XQ.thenE ?_
    have e_ := Option.some.inj h1
    subst e_
    have e_ : _ = _ := ho1
    subst e_
    exact XQ.joinX () (stle tZ hZ kZ rfl (Nat.zero_le _) rfl rfl rfl bZ rfl rfl) h0
  ·
   intro o1 h0
   refine XQ.blockX <| XQ.seq <| XC.seq <| XC.region <| rA rfl rfl rfl <| XL.nil <| XQ.seq <| XC.ret ?_
   have e_ := Option.some.inj h0
   subst e_
   exact XQ.retF (fun _ _ h => h) rfl (RAs.tmp rfl .nil) (.cons (.one (.d _)) .nil)
def m25_l0 (x6 : (List Bs)) (a0 : List Dcl) (s2 : (List Int) × Int) : Option (LO ((List Int) × Int) (((List Int)))) :=
  cond (decide (s2.2 < (x6.length : Int)))
    (Option.bind (idx x6 s2.2) fun (x9 : Bs) =>
  Option.bind (m48 a0 x9) fun (x10 : Int) =>
  guardO (Nat.ble (s2.1.length + ([x10]).length) 1000000000)
  (some (.next ((s2.1 ++ ([x10])), (w64 (s2.2 + 1))))))
    (some (.done s2.1))
def m25_l1 (a0 : List Dcl) (o7 : (List Int)) (s2 : (List Int) × Int) : Option (LO ((List Int) × Int) (((List Int)))) :=
  cond (decide (s2.2 < (a0.length : Int)))
    (Option.bind (m49 o7 s2.2) fun (x10 : Bool) =>
  cond x10
    (guardO (Nat.ble (s2.1.length + ([s2.2]).length) 1000000000)
  (some (.next ((s2.1 ++ ([s2.2])), (w64 (s2.2 + 1))))))
    (some (.next (s2.1, (w64 (s2.2 + 1))))))
    (some (.done s2.1))
def m25_l2 (a0 : List Dcl) (s1 : (List (List Int)) × Int) : Option (LO ((List (List Int)) × Int) (((List (List Int))))) :=
  cond (decide (s1.2 < (a0.length : Int)))
    (Option.bind (idx a0 s1.2) fun (x5 : Dcl) =>
  Option.bind (m47 x5) fun (x6 : (List Bs)) =>
  Option.bind (loopN (m25_l0 x6 a0) FUEL (([] : List Int), 0)) (fun (o7 : (List Int)) => Option.bind (loopN (m25_l1 a0 o7) FUEL (([] : List Int), 0)) (fun (o8 : (List Int)) => guardO (Nat.ble (s1.1.length + ([o8]).length) 1000000000)
  (some (.next ((s1.1 ++ ([o8])), (w64 (s1.2 + 1))))))))
    (some (.done s1.1))
def m25 (a0 : List Dcl) : Option ((List (List Int)) × Int) :=
  Option.bind (m46 a0) fun (x1 : Int) =>
  cond (x1 != 0)
    (some (([] : List (List Int)), x1))
    (Option.bind (loopN (m25_l2 a0) FUEL (([] : List (List Int)), 0)) (fun (o3 : (List (List Int))) => some (o3, 0)))
set_option maxRecDepth 100000 in
set_option maxHeartbeats 8000000 in
theorem m25_ok (a0 : List Dcl) (r : (List (List Int)) × Int) (h0 : m25 a0 = some r) : Fun Try.prog 25 [.one (dS a0)] (resOf [.one (dS r.1), .one (dI r.2)]) := by
  unfold m25 at h0
  refine Fun.of_bodyM 9 61 Try.func25 rfl en_25 rfl (lb rfl) (fun S w => ?_)
  simp only [entry]
  refine XC.seq <| XC.region <| rA rfl rfl rfl <| rA rfl rfl rfl <| XL.nil <| XQ.seq <| XC.seq <| XC.seq <| XC.region <| rM rfl rfl rfl ?_
  refine bindK h0 (fun x1 hx1 h0 => ?_)
  refine XL.put rfl rfl (lb rfl) (OpOK.callFun (m46_ok a0 x1 hx1) rfl (.cons (.one (.d _)) .nil)) <| rA rfl rfl rfl <| XL.nil <| XQ.seq <| XC.seq <| XC.region <| rM rfl rfl rfl <| rR rfl rfl rfl (RO.binInt rfl rfl rfl) <| XL.nil <| XQ.seq ?_
  refine XC.cond (b := (x1 != 0)) rfl (fun c2 => ?_) (fun c2 => ?_)
  ·
   replace h0 := condT c2 h0
   refine XC.seq <| XC.region <| rM rfl rfl rfl <| rA rfl rfl rfl <| rA rfl rfl rfl <| XL.nil <| XQ.seq <| XC.ret ?_
   have e_ := Option.some.inj h0
   subst e_
   exact XQ.retF (fun _ _ h => h) rfl (RAs.tmp rfl (RAs.tmp rfl .nil)) (.cons (.one (.nil _)) (.cons (.one (.d _)) .nil))
  ·
   replace h0 := condF c2 h0
   refine XC.skip <| XQ.seq <| XC.seq <| XC.region <| rA rfl rfl rfl <| XL.nil <| XQ.seq <| XC.seq <| XC.seq <| XC.region <| rA rfl rfl rfl <| XL.nil <| XQ.seq <| XC.block ?_
   refine XC.joinX 0 (fun (o3 : (List (List Int))) => ⟨[(5, .v (.one (dA 0 o3)))], [], [(0, some ⟨54, 1, (Enc.encL o3).length, []⟩)], 1, 61, []⟩) (fun (o3 : (List (List Int))) => (some (o3, 0)) = some r) ?_ ?_
   ·
    refine XC.adoptT (t := 5) 54 1 rfl ?_
    refine bindK h0 (fun o4 hl1 h0 => ?_)
    refine XC.loopM (m25_l2 a0) (fun s1 => ⟨[(0, .v (.one (dS a0))), (5, .v (.one (dA 0 s1.1))), (6, .v (.one (dI s1.2)))], [], [(0, some ⟨54, 1, (Enc.encL s1.1).length, []⟩)], 1, 61, []⟩) (([] : List (List Int)), 0) o4 (stle (tR rfl (tR rfl (tR rfl tZ))) hZ (kR rfl kZ) rfl (Nat.zero_le _) rfl rfl rfl bZ rfl rfl) hl1 (fun s1 n1 oo1 h1 ho1 => ?_)
    unfold m25_l2 at h1
    refine XC.seq <| XC.seq <| XC.region <| rM rfl rfl rfl <| rM rfl rfl rfl <| rR rfl rfl rfl (RO.lenE (α := Dcl) sl_22 rfl (.d _)) <| rR rfl rfl rfl (RO.binInt rfl rfl rfl) <| XL.nil <| XQ.seq ?_
    refine XC.cond (b := (decide (s1.2 < (a0.length : Int)))) rfl (fun c5 => ?_) (fun c5 => ?_)
    ·
     replace h1 := condT c5 h1
     refine XC.skip <| XQ.seq <| XC.seq <| XC.block <| XC.seq <| XC.region <| rM rfl rfl rfl <| rM rfl rfl rfl ?_
     refine bindK h1 (fun x6 hx6 h1 => ?_)
     refine rR rfl rfl rfl (RO.indexE (α := Dcl) sl_22 rfl (.d _) rfl hx6) <| rR rfl rfl rfl (RO.loadPelAgg ag_48 rfl rfl rfl) ?_
     refine bindK h1 (fun x7 hx7 h1 => ?_)
     refine XL.put rfl rfl (lb rfl) (OpOK.callFun (m47_ok x6 x7 hx7) rfl (.cons (.agg (.cons (.d _) (.cons (.d _) (.cons (.d _) (.cons (.d _) (.cons (.d _) (.cons (.d _) (.cons (.d _) (.cons (.d _) (.cons (.d _) (.cons (.d _) (.cons (.d _) (.cons (.d _) (.cons (.d _) (.cons (.d _) (.cons (.d _) (.cons (.d _) (.cons (.d _) (.cons (.d _) (.cons (.d _) (.cons (.d _) (.cons (.d _) (.cons (.d _) (.cons (.d _) .nil)))))))))))))))))))))))) .nil)) <| rA rfl rfl rfl <| XL.nil <| XQ.seq <| XC.seq <| XC.region <| rA rfl rfl rfl <| rA rfl rfl rfl <| XL.nil <| XQ.seq <| XC.seq <| XC.seq <| XC.region <| rA rfl rfl rfl ?_
     refine XL.nil <| XQ.seq <| XC.block ?_
     refine XC.joinX 2 (fun (o8 : (List Int)) => ⟨[(0, .v (.one (dS a0))), (5, .v (.one (dA 0 s1.1))), (6, .v (.one (dI s1.2))), (8, .v (.one (dA 1 o8))), (9, .v (.one (dN)))], [], [(0, some ⟨54, 1, (Enc.encL s1.1).length, []⟩), (1, some ⟨3, 1, (Enc.encL o8).length, []⟩)], 2, 61, []⟩) (fun (o8 : (List Int)) => (Option.bind (loopN (m25_l1 a0 o8) FUEL (([] : List Int), 0)) (fun (o9 : (List Int)) => guardO (Nat.ble (s1.1.length + ([o9]).length) 1000000000)
       (some (.next ((s1.1 ++ ([o9])), (w64 (s1.2 + 1))))))) = some oo1) ?_ ?_
     ·
      refine XC.adoptT (t := 8) 3 1 rfl ?_
      refine bindK h1 (fun o9 hl2 h1 => ?_)
      refine XC.loopM (m25_l0 x7 a0) (fun s2 => ⟨[(0, .v (.one (dS a0))), (5, .v (.one (dA 0 s1.1))), (6, .v (.one (dI s1.2))), (7, .v (.one (dS x7))), (8, .v (.one (dA 1 s2.1))), (9, .v (.one (dN))), (10, .v (.one (dI s2.2)))], [], [(0, some ⟨54, 1, (Enc.encL s1.1).length, []⟩), (1, some ⟨3, 1, (Enc.encL s2.1).length, []⟩)], 2, 61, []⟩) (([] : List Int), 0) o9 (stle (tR rfl (tR rfl (tR rfl (tR rfl (tR rfl (tR rfl (tR rfl tZ))))))) hZ (kR rfl (kR rfl kZ)) rfl (Nat.zero_le _) rfl rfl rfl bZ rfl rfl) hl2 (fun s2 n2 oo2 h2 ho2 => ?_)
      unfold m25_l0 at h2
      refine XC.seq <| XC.seq <| XC.region <| rM rfl rfl rfl <| rM rfl rfl rfl <| rR rfl rfl rfl (RO.lenE (α := Bs) sl_23 rfl (.d _)) <| rR rfl rfl rfl (RO.binInt rfl rfl rfl) <| XL.nil <| XQ.seq ?_
      refine XC.cond (b := (decide (s2.2 < (x7.length : Int)))) rfl (fun c10 => ?_) (fun c10 => ?_)
      ·
       replace h2 := condT c10 h2
       refine XC.skip <| XQ.seq <| XC.seq <| XC.block <| XC.region <| rM rfl rfl rfl <| rM rfl rfl rfl <| rM rfl rfl rfl <| rM rfl rfl rfl ?_
       refine bindK h2 (fun x11 hx11 h2 => ?_)
       refine rR rfl rfl rfl (RO.indexE (α := Bs) sl_23 rfl (.d _) rfl hx11) <| rR rfl rfl rfl (RO.loadPel ag_9 rfl rfl) ?_
       refine bindK h2 (fun x12 hx12 h2 => ?_)
       refine XL.put rfl rfl (lb rfl) (OpOK.callFun (m48_ok a0 x11 x12 hx12) rfl (.cons (.one (.d _)) (.cons (.one (.d _)) .nil))) <| XL.put rfl rfl (lb rfl) (OpOK.lit1E (α := Int) (x12) sl_54 z_3 rfl rfl (lb rfl) (lb rfl) rfl rfl (.cons (.d _) .nil) rfl) ?_
       refine guardK h2 (fun g13 h2 => ?_)
       refine XL.put rfl rfl (lb rfl) (OpOK.appendE (α := Int) sl_54 el_3 rfl rfl rfl rfl rfl (.app _ _) g13) <| rA rfl rfl rfl <| XL.nil <| XQ.inBlock <| XQ.seq <| XC.region <| rM rfl rfl rfl <| rR rfl rfl rfl (RO.binInt rfl rfl rfl) <| rA rfl rfl rfl <| XL.nil ?_
       have e_ := Option.some.inj h2
       subst e_
       refine XQ.nextM ((s2.1 ++ ([x12])), (w64 (s2.2 + 1))) (stle (tR rfl (tR rfl (tR rfl (tR rfl (tR rfl (tR rfl (tR rfl tZ))))))) hZ (kR rfl (kR rfl kZ)) rfl (Nat.zero_le _) rfl rfl rfl bZ rfl rfl) ho2
      ·
       replace h2 := condF c10 h2
       refine XC.exit <| XQ.thenE <| XQ.thenE ?_
       have e_ := Option.some.inj h2
       subst e_
       have e_ : _ = _ := ho2
       subst e_
       exact XQ.joinX s2.1 (stle (tR rfl (tR rfl (tR rfl (tR rfl (tR rfl tZ))))) hZ (kR rfl (kR rfl kZ)) rfl (Nat.zero_le _) rfl rfl rfl bZ rfl rfl) h1
     ·
      intro o8 h1
      refine XQ.blockX <| XQ.seq <| XC.seq <| XC.seq <| XC.region <| rA rfl rfl rfl <| XL.nil <| XQ.seq <| XC.block ?_
      refine XC.joinX 4 (fun (o14 : (List Int)) => ⟨[(0, .v (.one (dS a0))), (5, .v (.one (dA 0 s1.1))), (6, .v (.one (dI s1.2))), (9, .v (.one (dA 2 o14)))], [], [(0, some ⟨54, 1, (Enc.encL s1.1).length, []⟩), (1, some ⟨3, 1, (Enc.encL o8).length, []⟩), (2, some ⟨3, 1, (Enc.encL o14).length, []⟩)], 3, 61, []⟩) (fun (o14 : (List Int)) => (guardO (Nat.ble (s1.1.length + ([o14]).length) 1000000000)
        (some (.next ((s1.1 ++ ([o14])), (w64 (s1.2 + 1)))))) = some oo1) ?_ ?_
      ·
       refine XC.adoptT (t := 9) 3 1 rfl ?_
       refine bindK h1 (fun o15 hl2 h1 => ?_)
       refine XC.loopM (m25_l1 a0 o8) (fun s2 => ⟨[(0, .v (.one (dS a0))), (5, .v (.one (dA 0 s1.1))), (6, .v (.one (dI s1.2))), (8, .v (.one (dA 1 o8))), (9, .v (.one (dA 2 s2.1))), (11, .v (.one (dI s2.2)))], [], [(0, some ⟨54, 1, (Enc.encL s1.1).length, []⟩), (1, some ⟨3, 1, (Enc.encL o8).length, []⟩), (2, some ⟨3, 1, (Enc.encL s2.1).length, []⟩)], 3, 61, []⟩) (([] : List Int), 0) o15 (stle (tR rfl (tR rfl (tR rfl (tR rfl (tR rfl (tR rfl tZ)))))) hZ (kR rfl (kR rfl (kR rfl kZ))) rfl (Nat.zero_le _) rfl rfl rfl bZ rfl rfl) hl2 (fun s2 n2 oo2 h2 ho2 => ?_)
       unfold m25_l1 at h2
       refine XC.seq <| XC.seq <| XC.region <| rM rfl rfl rfl <| rM rfl rfl rfl <| rR rfl rfl rfl (RO.lenE (α := Dcl) sl_22 rfl (.d _)) <| rR rfl rfl rfl (RO.binInt rfl rfl rfl) <| XL.nil <| XQ.seq ?_
       refine XC.cond (b := (decide (s2.2 < (a0.length : Int)))) rfl (fun c16 => ?_) (fun c16 => ?_)
       ·
        replace h2 := condT c16 h2
        refine XC.skip <| XQ.seq <| XC.seq <| XC.block <| XC.seq <| XC.region <| rM rfl rfl rfl <| rM rfl rfl rfl ?_
        refine bindK h2 (fun x17 hx17 h2 => ?_)
        refine XL.put rfl rfl (lb rfl) (OpOK.callFun (m49_ok o8 s2.2 x17 hx17) rfl (.cons (.one (.app _ _ _)) (.cons (.one (.d _)) .nil))) <| XL.nil <| XQ.seq ?_
        refine XC.cond (b := x17) rfl (fun c18 => ?_) (fun c18 => ?_)
        ·
         replace h2 := condT c18 h2
         refine XC.region <| rM rfl rfl rfl <| rM rfl rfl rfl <| XL.put rfl rfl (lb rfl) (OpOK.lit1E (α := Int) (s2.2) sl_54 z_3 rfl rfl (lb rfl) (lb rfl) rfl rfl (.cons (.d _) .nil) rfl) ?_
         refine guardK h2 (fun g19 h2 => ?_)
         refine XL.put rfl rfl (lb rfl) (OpOK.appendE (α := Int) sl_54 el_3 rfl rfl rfl rfl rfl (.app _ _) g19) <| rA rfl rfl rfl <| XL.nil <| XQ.inBlock <| XQ.seq <| XC.region <| rM rfl rfl rfl <| rR rfl rfl rfl (RO.binInt rfl rfl rfl) <| rA rfl rfl rfl <| XL.nil ?_
         have e_ := Option.some.inj h2
         subst e_
         refine XQ.nextM ((s2.1 ++ ([s2.2])), (w64 (s2.2 + 1))) (stle (tR rfl (tR rfl (tR rfl (tR rfl (tR rfl (tR rfl tZ)))))) hZ (kR rfl (kR rfl (kR rfl kZ))) rfl (Nat.zero_le _) rfl rfl rfl bZ rfl rfl) ho2
        ·
         replace h2 := condF c18 h2
         refine XC.skip <| XQ.inBlock <| XQ.seq <| XC.region <| rM rfl rfl rfl <| rR rfl rfl rfl (RO.binInt rfl rfl rfl) <| rA rfl rfl rfl <| XL.nil ?_
         have e_ := Option.some.inj h2
         subst e_
         refine XQ.nextM (s2.1, (w64 (s2.2 + 1))) (stle (tR rfl (tR rfl (tR rfl (tR rfl (tR rfl (tR rfl tZ)))))) hZ (kR rfl (kR rfl (kR rfl kZ))) rfl (Nat.zero_le _) rfl rfl rfl bZ rfl rfl) ho2
       ·
        replace h2 := condF c16 h2
        refine XC.exit <| XQ.thenE <| XQ.thenE ?_
        have e_ := Option.some.inj h2
        subst e_
        have e_ : _ = _ := ho2
        subst e_
        exact XQ.joinX s2.1 (stle (tR rfl (tR rfl (tR rfl (tR rfl tZ)))) hZ (kR rfl (kR rfl (kR rfl kZ))) rfl (Nat.zero_le _) rfl rfl rfl bZ rfl rfl) h1
      ·
       intro o14 h1
       refine XQ.blockX <| XQ.seq <| XC.region <| rM rfl rfl rfl <| rM rfl rfl rfl <| XL.put rfl rfl (lb rfl) (OpOK.lit1E (α := List Int) (o14) sl_57 z_54 rfl rfl (lb rfl) (lb rfl) rfl rfl (.cons (.app _ _ _) .nil) rfl) ?_
       refine guardK h1 (fun g20 h1 => ?_)
       refine XL.put rfl rfl (lb rfl) (OpOK.appendE (α := List Int) sl_57 el_54 rfl rfl rfl rfl rfl (.app _ _) g20) <| rA rfl rfl rfl <| XL.nil <| XQ.inBlock <| XQ.seq <| XC.region <| rM rfl rfl rfl <| rR rfl rfl rfl (RO.binInt rfl rfl rfl) <| rA rfl rfl rfl <| XL.nil ?_
       have e_ := Option.some.inj h1
       subst e_
       refine XQ.nextM ((s1.1 ++ ([o14])), (w64 (s1.2 + 1))) (stle (tR rfl (tR rfl (tR rfl tZ))) hZ (kR rfl kZ) rfl (Nat.zero_le _) rfl rfl rfl bZ rfl rfl) ho1
    ·
     replace h1 := condF c5 h1
     refine XC.exit <| XQ.thenE <| XQ.thenE ?_
     have e_ := Option.some.inj h1
     subst e_
     have e_ : _ = _ := ho1
     subst e_
     exact XQ.joinX s1.1 (stle (tR rfl tZ) hZ (kR rfl kZ) rfl (Nat.zero_le _) rfl rfl rfl bZ rfl rfl) h0
   ·
    intro o3 h0
    refine XQ.blockX <| XQ.seq <| XC.seq <| XC.region <| rM rfl rfl rfl <| rA rfl rfl rfl <| rA rfl rfl rfl <| XL.nil <| XQ.seq <| XC.ret ?_
    have e_ := Option.some.inj h0
    subst e_
    exact XQ.retF (fun _ _ h => h) rfl (RAs.tmp rfl (RAs.tmp rfl .nil)) (.cons (.one (.app _ _ _)) (.cons (.one (.d _)) .nil))
end Go.Proofs.Ytijcchddnnnmdaa
namespace Go.Proofs.Ytijcchddnnnmdaa
open Go.RowKit Go.Lib
set_option linter.unusedSimpArgs false
set_option linter.unusedVariables false
set_option linter.unusedSectionVars false
theorem pair_lt_eq : ∀ {l m : List Int}, l.Pairwise (· < ·) → m.Pairwise (· < ·) → (∀ x, x ∈ l ↔ x ∈ m) → l = m
  | [], [], _, _, _ => rfl
  | [], y :: m, _, _, h => absurd ((h y).2 List.mem_cons_self) (by simp)
  | x :: l, [], _, _, h => absurd ((h x).1 List.mem_cons_self) (by simp)
  | x :: l, y :: m, hl, hm, h => by
    have hx := List.pairwise_cons.1 hl
    have hy := List.pairwise_cons.1 hm
    have hxy : x = y := by
      have h1 : x ∈ y :: m := (h x).1 List.mem_cons_self
      have h2 : y ∈ x :: l := (h y).2 List.mem_cons_self
      rcases List.mem_cons.1 h1 with e | h1
      · exact e
      rcases List.mem_cons.1 h2 with e | h2
      · exact e.symm
      have := hx.1 y h2
      have := hy.1 x h1
      omega
    subst hxy
    congr 1
    refine pair_lt_eq hx.2 hy.2 fun z => ?_
    have hz := h z
    simp only [List.mem_cons] at hz
    constructor
    · intro h1
      rcases hz.1 (.inr h1) with e | h2
      · have := hx.1 z h1; omega
      · exact h2
    · intro h1
      rcases hz.2 (.inr h1) with e | h2
      · have := hy.1 z h1; omega
      · exact h2
theorem bang_eq (zs : List Int) {j : Nat} (h : j < zs.length) : zs.toArray[j]! = zs[j] := by
  rw [getElem!_pos zs.toArray j (by simpa using h)]; rfl
theorem compact_sorted {zs : List Int} (h : zs.Pairwise (· ≤ ·)) : (Lib.compact zs).Pairwise (· < ·) ∧ ∀ x, x ∈ Lib.compact zs ↔ x ∈ zs := by
  have hle : ∀ i j, (hi : i < zs.length) → (hj : j < zs.length) → i ≤ j → zs[i] ≤ zs[j] := fun i j hi hj hij => by
    rcases Nat.lt_or_ge i j with h1 | h1
    · exact List.pairwise_iff_getElem.1 h i j hi hj h1
    · obtain rfl : i = j := by omega
      exact Int.le_refl _
  unfold Lib.compact compactUpTo
  constructor
  · rw [List.pairwise_map]
    have hr : ((List.range zs.length).filter (keeps zs.toArray)).Pairwise (fun a b => a < b ∧ a < zs.length ∧ b < zs.length ∧ keeps zs.toArray b = true) := by
      have h1 : ((List.range zs.length).filter (keeps zs.toArray)).Pairwise (· < ·) := List.Pairwise.filter _ List.pairwise_lt_range
      refine List.Pairwise.imp_of_mem (fun ha hb hab => ⟨hab, ?_, ?_, ?_⟩) h1
      · exact List.mem_range.1 (List.mem_filter.1 ha).1
      · exact List.mem_range.1 (List.mem_filter.1 hb).1
      · exact (List.mem_filter.1 hb).2
    refine List.Pairwise.imp (fun {a b} hab => ?_) hr
    obtain ⟨h1, h2, h3, h4⟩ := hab
    have hb0 : b ≠ 0 := by omega
    have hne : zs.toArray[b]! ≠ zs.toArray[b - 1]! := fun e => by rw [keeps_neg (by omega) e] at h4; cases h4
    rw [bang_eq zs h3, bang_eq zs (by omega)] at hne
    rw [bang_eq zs h2, bang_eq zs h3]
    have h5 := hle a (b - 1) h2 (by omega) (by omega)
    have h6 := hle (b - 1) b (by omega) h3 (by omega)
    omega
  · intro x
    rw [List.mem_map]
    constructor
    · rintro ⟨j, hj, rfl⟩
      have := List.mem_range.1 (List.mem_filter.1 hj).1
      rw [bang_eq zs this]; exact List.getElem_mem this
    · intro hx
      obtain ⟨j, hj, hjx⟩ := List.mem_iff_getElem.1 hx
      have key : ∀ j, (hj : j < zs.length) → zs[j] = x → ∃ k, k ∈ (List.range zs.length).filter (keeps zs.toArray) ∧ zs.toArray[k]! = x := by
        intro j
        induction j with
        | zero =>
          intro hj hjx
          exact ⟨0, List.mem_filter.2 ⟨List.mem_range.2 hj, keeps_lt_one _ 0 (by omega)⟩, by rw [bang_eq zs hj, hjx]⟩
        | succ j ih =>
          intro hj hjx
          by_cases e : zs[j] = x
          · exact ih (by omega) e
          · refine ⟨j + 1, List.mem_filter.2 ⟨List.mem_range.2 hj, keeps_pos ?_⟩, by rw [bang_eq zs hj, hjx]⟩
            rw [bang_eq zs hj, Nat.add_sub_cancel, bang_eq zs (by omega), hjx]
            exact fun e' => e e'.symm
      exact key j hj hjx
theorem sortI_mem (l : List Int) (x : Int) : x ∈ sortI l ↔ x ∈ l := (sortI_perm l).mem_iff
theorem sortI_len (l : List Int) : (sortI l).length = l.length := (sortI_perm l).length_eq
def allNames (l : List Dcl) : List Bs := (l.map names).flatten
def ownO (i : Int) : List Dcl → Bs → Option Int
  | [], _ => none
  | d :: l, s => if s ∈ names d then some i else ownO (i + 1) l s
theorem ownO_app (s : Bs) (b : List Dcl) : ∀ (a : List Dcl) (i : Int), ownO i (a ++ b) s = (ownO i a s).or (ownO (i + a.length) b s)
  | [], i => by simp [ownO]
  | d :: a, i => by
    simp only [List.cons_append, ownO]
    split
    · rfl
    · rw [ownO_app s b a (i + 1), show i + 1 + (a.length : Int) = i + ((d :: a).length : Int) by simp only [List.length_cons]; omega]
theorem ownO_some (s : Bs) : ∀ (l : List Dcl) (i j : Int), ownO i l s = some j → ∃ k : Nat, ∃ d, j = i + k ∧ l[k]? = some d ∧ s ∈ names d
  | [], i, j, h => by cases h
  | d :: l, i, j, h => by
    simp only [ownO] at h
    split at h
    · cases h; exact ⟨0, d, by simp, rfl, ‹_›⟩
    · obtain ⟨k, d', h1, h2, h3⟩ := ownO_some s l (i + 1) j h
      exact ⟨k + 1, d', by omega, h2, h3⟩
theorem ownO_none (s : Bs) : ∀ (l : List Dcl) (i : Int), ownO i l s = none ↔ s ∉ allNames l
  | [], i => by simp [ownO, allNames]
  | d :: l, i => by
    simp only [ownO]
    have ih := ownO_none s l (i + 1)
    unfold allNames at ih ⊢
    simp only [List.map_cons, List.flatten_cons, List.mem_append, not_or]
    split
    · simp [*]
    · rw [ih]; simp [*]
def ownV (env : List Dcl) (s : Bs) : Int := (ownO 0 env s).getD 0
def envSz (env : List Dcl) : Nat := (env.map Dcl.size).sum
theorem size_le {env : List Dcl} {d : Dcl} (h : d ∈ env) : d.size ≤ envSz env := sum_mem Dcl.size h
theorem env_len (env : List Dcl) : env.length ≤ envSz env := len_sum Dcl.size (fun d => by unfold Dcl.size; omega) env
theorem all_len (env : List Dcl) : (allNames env).length ≤ envSz env + env.length := by
  have := flat_le names (fun d => d.size + 1) names_len env
  have h2 : ∀ l : List Dcl, (l.map (fun d => d.size + 1)).sum = (l.map Dcl.size).sum + l.length := by
    intro l
    induction l with
    | nil => rfl
    | cons x l ih => simp only [List.map_cons, List.sum_cons, List.length_cons, ih]; omega
  rw [h2] at this
  exact this
theorem size_app (a b : List Dcl) : envSz (a ++ b) = envSz a + envSz b := by unfold envSz; simp
theorem size_cons (x : Dcl) (b : List Dcl) : envSz (x :: b) = x.size + envSz b := by unfold envSz; simp
theorem all_snoc (a : List Dcl) (x : Dcl) : allNames (a ++ [x]) = allNames a ++ names x := by unfold allNames; simp
theorem all_nodup {a b : List Dcl} (h : (allNames (a ++ b)).Nodup) : (allNames a).Nodup := by
  unfold allNames at h ⊢
  rw [List.map_append, List.flatten_append] at h
  exact (List.nodup_append.1 h).1
def closedA (env : List Dcl) (l : List Dcl) : Prop := ∀ d ∈ l, ∀ s ∈ uses d, s ∈ allNames env
def row (env : List Dcl) (d : Dcl) : List Int := ((List.range env.length).map fun (k : Nat) => (k : Int)).filter fun j => decide (j ∈ (uses d).map (ownV env))
def graphL (env : List Dcl) : List (List Int) := env.map (row env)
inductive Says (env : List Dcl) : List (List Int) × Int → Prop
  | twice (h : ¬ (allNames env).Nodup) : Says env ([], 8)
  | none (h : (allNames env).Nodup) (h2 : ¬ closedA env env) : Says env ([], 9)
  | ok (h : (allNames env).Nodup) (h2 : closedA env env) : Says env (graphL env, 0)
theorem ownV_range {env : List Dcl} {s : Bs} (h : s ∈ allNames env) : ∃ k : Nat, k < env.length ∧ ownO 0 env s = some (k : Int) := by
  cases h1 : ownO 0 env s with
  | none => exact absurd h ((ownO_none s env 0).1 h1)
  | some j =>
    obtain ⟨k, d, h2, h3, h4⟩ := ownO_some s env 0 j h1
    exact ⟨k, (List.getElem?_eq_some_iff.1 h3).1, by rw [h2, Int.zero_add]⟩
theorem row_pair (env : List Dcl) (d : Dcl) : (row env d).Pairwise (· < ·) := by
  refine List.Pairwise.filter _ ?_
  rw [List.pairwise_map]
  exact List.pairwise_lt_range.imp fun h => by omega
theorem row_mem {env : List Dcl} {d : Dcl} (h : ∀ s ∈ uses d, s ∈ allNames env) (x : Int) : x ∈ row env d ↔ x ∈ (uses d).map (ownV env) := by
  unfold row
  rw [List.mem_filter, decide_eq_true_eq]
  refine ⟨fun h => h.2, fun hx => ⟨?_, hx⟩⟩
  obtain ⟨s, hs, rfl⟩ := List.mem_map.1 hx
  obtain ⟨k, hk, e⟩ := ownV_range (h s hs)
  unfold ownV
  rw [e]
  exact List.mem_map.2 ⟨k, List.mem_range.2 hk, rfl⟩
theorem row_sort {env : List Dcl} {d : Dcl} (h : ∀ s ∈ uses d, s ∈ allNames env) : Lib.compact (sortI ((uses d).map (ownV env))) = row env d := by
  obtain ⟨h1, h2⟩ := compact_sorted (sortI_pair ((uses d).map (ownV env)))
  refine pair_lt_eq h1 (row_pair env d) fun x => ?_
  rw [h2, sortI_mem, row_mem h]
abbrev OM := GMap Bs Int
theorem m23_l0_eq (i : Int) (M0 : OM) (f : Bs → Option Int) (nx : List Bs) (hM : ∀ s, gmGet M0 s = f s) (hl : nx.length ≤ 900000000) : ∃ r, loopN (m23_l0 nx (i, M0)) FUEL (0, M0) = some r ∧
    ((nx.Nodup ∧ (∀ s ∈ nx, f s = none) ∧ ∃ M', r = .inl M' ∧ ∀ s, gmGet M' s = (f s).or (if s ∈ nx then some i else none)) ∨ (¬ (nx.Nodup ∧ ∀ s ∈ nx, f s = none) ∧ r = .inr (.inr (.inl ())))) := by
  refine loop_all (step := m23_l0 nx (i, M0)) nx (fun k (s : OM) => (k, s)) (fun c M => c.Nodup ∧ (∀ s ∈ c, f s = none) ∧ ∀ s, gmGet M s = (f s).or (if s ∈ c then some i else none)) _ hl ?_ ?_ M0 ⟨List.nodup_nil, by simp, fun s => by rw [hM s]; simp⟩
  · intro a x b M e hI
    obtain ⟨h1, h2, h3⟩ := hI
    cases hx : gmHas M x with
    | true =>
      refine .inl ⟨.inr (.inr (.inl ())), ?_, .inr ⟨?_, rfl⟩⟩
      · unfold m23_l0
        dsimp only
        rw [e, lt_mid, idx_mid]
        simp only [cond_true, Option.bind_some]
        rw [hx]; rfl
      · rintro ⟨h4, h5⟩
        have h6 := h5 x (by rw [e]; simp)
        unfold gmHas at hx
        rw [h3, h6] at hx
        by_cases hxa : x ∈ a
        · rw [e, List.nodup_append] at h4
          exact h4.2.2 x hxa x List.mem_cons_self rfl
        · simp [hxa] at hx
    | false =>
      refine .inr ⟨gmSet M x i, ?_, ?_, ?_, ?_⟩
      · unfold m23_l0
        dsimp only
        rw [e, lt_mid, idx_mid]
        simp only [cond_true, Option.bind_some]
        rw [hx]; rfl
      · unfold gmHas at hx
        rw [h3] at hx
        rw [List.nodup_append]
        refine ⟨h1, by simp, fun y hy z hz => ?_⟩
        rw [List.mem_singleton] at hz
        subst hz
        intro e2
        subst e2
        cases hf : f y with
        | some j => rw [hf] at hx; cases hx
        | none => rw [hf] at hx; simp [hy] at hx
      · intro s hs
        rcases List.mem_append.1 hs with hs | hs
        · exact h2 s hs
        · rw [List.mem_singleton] at hs
          subst hs
          unfold gmHas at hx
          rw [h3] at hx
          cases hf : f s with
          | some j => rw [hf] at hx; cases hx
          | none => rfl
      · intro s
        rw [gmGet_set, h3]
        by_cases es : s = x
        · subst es
          unfold gmHas at hx
          rw [h3] at hx
          cases hf : f s with
          | some j => rw [hf] at hx; cases hx
          | none => simp
        · rw [if_neg es]
          have : s ∈ a ++ [x] ↔ s ∈ a := by simp [es]
          simp only [this]
  · intro M hI
    refine ⟨.inl M, ?_, .inl ⟨hI.1, hI.2.1, M, rfl, hI.2.2⟩⟩
    unfold m23_l0
    dsimp only
    rw [lt_end]; rfl
theorem nodup_snoc {a : List Dcl} {x : Dcl} (h : (allNames a).Nodup) : (allNames (a ++ [x])).Nodup ↔ ((names x).Nodup ∧ ∀ s ∈ names x, ownO 0 a s = none) := by
  rw [all_snoc, List.nodup_append]
  constructor
  · rintro ⟨-, h1, h2⟩
    exact ⟨h1, fun s hs => (ownO_none s a 0).2 fun h3 => h2 s h3 s hs rfl⟩
  · rintro ⟨h1, h2⟩
    exact ⟨h, h1, fun s hs t ht e => by subst e; exact (ownO_none s a 0).1 (h2 s ht) hs⟩
theorem m23_l1_eq (env : List Dcl) (hl : envSz env ≤ 100000000) : ∃ r, loopN (m23_l1 env) FUEL (0, gmNil) = some r ∧
    (((allNames env).Nodup ∧ ∃ M, r = .inl M ∧ ∀ s, gmGet M s = ownO 0 env s) ∨ (¬ (allNames env).Nodup ∧ r = .inr (.inr (.inl ())))) := by
  have hel := env_len env
  refine loop_all (step := m23_l1 env) env (fun k (s : OM) => (k, s)) (fun a M => (allNames a).Nodup ∧ ∀ s, gmGet M s = ownO 0 a s) _ (by omega) ?_ ?_ gmNil ⟨List.nodup_nil, fun s => rfl⟩
  · intro a x b M e hI
    have hx : x ∈ env := by rw [e]; simp
    have hxs := size_le hx
    have hnl := names_len x
    obtain ⟨h1, h2⟩ := hI
    obtain ⟨r, e1, hr⟩ := m23_l0_eq (a.length : Int) M (ownO 0 a) (names x) h2 (by omega)
    rcases hr with ⟨h3, h4, M', rfl, h5⟩ | ⟨h3, rfl⟩
    · refine .inr ⟨M', ?_, ?_, fun s => ?_⟩
      · unfold m23_l1
        dsimp only
        rw [e, lt_mid, idx_mid]
        simp only [cond_true, Option.bind_some]
        rw [m37_eq x (by omega), Option.bind_some, e1]; rfl
      · exact (nodup_snoc h1).2 ⟨h3, h4⟩
      · rw [h5, ownO_app, Int.zero_add]; rfl
    · refine .inl ⟨.inr (.inr (.inl ())), ?_, .inr ⟨?_, rfl⟩⟩
      · unfold m23_l1
        dsimp only
        rw [e, lt_mid, idx_mid]
        simp only [cond_true, Option.bind_some]
        rw [m37_eq x (by omega), Option.bind_some, e1]; rfl
      · intro h6
        rw [e, show a ++ x :: b = (a ++ [x]) ++ b by simp] at h6
        exact h3 ((nodup_snoc h1).1 (all_nodup h6))
  · intro M hI
    refine ⟨.inl M, ?_, .inl ⟨hI.1, M, rfl, hI.2⟩⟩
    unfold m23_l1
    dsimp only
    rw [lt_end]; rfl
theorem m23_l2_eq (env : List Dcl) (M : OM) (hM : ∀ s, gmGet M s = ownO 0 env s) (u : List Bs) (hl : u.length ≤ 900000000) : ∃ r, loopN (m23_l2 u M) FUEL ([], 0) = some r ∧
    (((∀ s ∈ u, s ∈ allNames env) ∧ r = .inl (u.map (ownV env))) ∨ (¬ (∀ s ∈ u, s ∈ allNames env) ∧ r = .inr (.inr (.inr ())))) := by
  have hv : ∀ s, gmVal M s = ownV env s := fun s => by unfold gmVal ownV; rw [hM]; rfl
  have hh : ∀ s, gmHas M s = decide (s ∈ allNames env) := fun s => by
    unfold gmHas
    rw [hM]
    by_cases h : s ∈ allNames env
    · obtain ⟨k, -, e⟩ := ownV_range h
      rw [e]; simp [h]
    · rw [(ownO_none s env 0).2 h]; simp [h]
  refine loop_all (step := m23_l2 u M) u (fun k (s : List Int) => (s, k)) (fun a s => (∀ x ∈ a, x ∈ allNames env) ∧ s = a.map (ownV env)) _ hl ?_ ?_ [] ⟨by simp, rfl⟩
  · intro a x b s e hI
    obtain ⟨h1, h2⟩ := hI
    have hal : a.length < u.length := mid_lt e
    by_cases hx : x ∈ allNames env
    · refine .inr ⟨s ++ [ownV env x], ?_, fun y hy => ?_, by rw [h2]; simp⟩
      · unfold m23_l2
        dsimp only
        rw [e, lt_mid, idx_mid]
        simp only [cond_true, Option.bind_some]
        rw [hh, hv, guard_le (by rw [h2]; simp; omega)]
        simp [hx]
      · rcases List.mem_append.1 hy with hy | hy
        · exact h1 y hy
        · rw [List.mem_singleton] at hy; subst hy; exact hx
    · refine .inl ⟨.inr (.inr (.inr ())), ?_, .inr ⟨fun h => hx (h x (by rw [e]; simp)), rfl⟩⟩
      unfold m23_l2
      dsimp only
      rw [e, lt_mid, idx_mid]
      simp only [cond_true, Option.bind_some]
      rw [hh]
      simp [hx]
  · intro s hI
    refine ⟨.inl s, ?_, .inl ⟨hI.1, by rw [hI.2]⟩⟩
    unfold m23_l2
    dsimp only
    rw [lt_end]; rfl
theorem m23_l3_eq (env : List Dcl) (M : OM) (hM : ∀ s, gmGet M s = ownO 0 env s) (hl : envSz env ≤ 100000000) : ∃ r, loopN (m23_l3 env M) FUEL (0, []) = some r ∧
    ((closedA env env ∧ r = .inl (graphL env)) ∨ (¬ closedA env env ∧ r = .inr (.inr (.inr ())))) := by
  have hel := env_len env
  refine loop_all (step := m23_l3 env M) env (fun k (s : List (List Int)) => (k, s)) (fun a s => closedA env a ∧ s = a.map (row env)) _ (by omega) ?_ ?_ [] ⟨by simp [closedA], rfl⟩
  · intro a x b s e hI
    obtain ⟨h1, h2⟩ := hI
    have hx : x ∈ env := by rw [e]; simp
    have hxs := size_le hx
    have hul := uses_len x
    have hal : a.length < env.length := mid_lt e
    obtain ⟨r, e1, hr⟩ := m23_l2_eq env M hM (uses x) (by omega)
    rcases hr with ⟨h3, rfl⟩ | ⟨h3, rfl⟩
    · refine .inr ⟨s ++ [row env x], ?_, fun d hd => ?_, by rw [h2]; simp⟩
      · unfold m23_l3
        dsimp only
        rw [e, lt_mid, idx_mid]
        simp only [cond_true, Option.bind_some]
        rw [m53_eq x (by omega), Option.bind_some, e1, Option.bind_some]
        dsimp only [Sum.elim]
        unfold sortF compactF
        rw [← e, Nat.ble_eq_true_of_le (show ((uses x).map (ownV env)).length ≤ 1000000000 by simp; omega), cond_true, Option.bind_some]
        rw [show Nat.beq (Enc.encL (sortI ((uses x).map (ownV env)))).length (Enc.encL ((uses x).map (ownV env))).length = true from by rw [Enc.len, Enc.len, sortI_len, Nat.beq_refl]]
        rw [cond_true, Option.bind_some, row_sort h3, guard_le (by rw [h2]; simp; omega)]
      · rcases List.mem_append.1 hd with hd | hd
        · exact h1 d hd
        · rw [List.mem_singleton] at hd; subst hd; exact h3
    · refine .inl ⟨.inr (.inr (.inr ())), ?_, .inr ⟨fun h => h3 (h x hx), rfl⟩⟩
      unfold m23_l3
      dsimp only
      rw [e, lt_mid, idx_mid]
      simp only [cond_true, Option.bind_some]
      rw [m53_eq x (by omega), Option.bind_some, e1]; rfl
  · intro s hI
    refine ⟨.inl s, ?_, .inl ⟨hI.1, by rw [hI.2]; rfl⟩⟩
    unfold m23_l3
    dsimp only
    rw [lt_end]; rfl
theorem newGraph_eq {γ : Type} (env : List Dcl) (hl : envSz env ≤ 100000000) : ∃ r, (Option.bind (loopN (m23_l1 env) FUEL (0, gmNil)) (Sum.elim (fun (o6 : OM) => Option.bind (loopN (m23_l3 env o6) FUEL (0, ([] : List (List Int)))) (Sum.elim (fun (o7 : List (List Int)) => some (.inl (o7, o6))) (fun o => some o))) (fun o => some o))) = some r ∧
    ((¬ (allNames env).Nodup ∧ r = .inr (.inl ())) ∨ ((allNames env).Nodup ∧ ¬ closedA env env ∧ r = .inr (.inr ())) ∨ ((allNames env).Nodup ∧ closedA env env ∧ ∃ M, r = .inl (graphL env, M) ∧ ∀ s, gmGet M s = ownO 0 env s)) := by
  obtain ⟨r, e1, hr⟩ := m23_l1_eq env hl
  rw [e1, Option.bind_some]
  rcases hr with ⟨h1, M, rfl, hM⟩ | ⟨h1, rfl⟩
  · obtain ⟨r, e2, hr⟩ := m23_l3_eq env M hM hl
    dsimp only [Sum.elim]
    rw [e2, Option.bind_some]
    rcases hr with ⟨h2, rfl⟩ | ⟨h2, rfl⟩
    · exact ⟨_, rfl, .inr (.inr ⟨h1, h2, M, rfl, hM⟩)⟩
    · exact ⟨_, rfl, .inr (.inl ⟨h1, h2, rfl⟩)⟩
  · exact ⟨_, rfl, .inl ⟨h1, rfl⟩⟩
theorem m48_eq (env : List Dcl) (s : Bs) (hl : envSz env ≤ 100000000) : m48 env s = some ((ownO 0 env s).getD (-1)) := by
  have hel := env_len env
  unfold m48
  obtain ⟨r, e, hr⟩ := loop_all (step := m48_l0 env s) env (fun k (_ : Unit) => k) (fun a _ => ownO 0 a s = none) (fun r => r = match ownO 0 env s with
      | some j => .inr j
      | none => .inl ()) (by omega)
    (fun a x b _ e hI => by
      have hx : x ∈ env := by rw [e]; simp
      have hxs := size_le hx
      have hnl := names_len x
      by_cases hm : s ∈ names x
      · refine .inl ⟨.inr (a.length : Int), ?_, ?_⟩
        · unfold m48_l0
          rw [e, lt_mid, idx_mid]
          simp only [cond_true, Option.bind_some]
          rw [m18_eq x (by omega), Option.bind_some, m61_eq _ _ (by omega)]
          simp [hm]
        · rw [e, ownO_app, hI]
          simp [ownO, hm]
      · refine .inr ⟨(), ?_, ?_⟩
        · unfold m48_l0
          rw [e, lt_mid, idx_mid]
          simp only [cond_true, Option.bind_some]
          rw [m18_eq x (by omega), Option.bind_some, m61_eq _ _ (by omega)]
          simp [hm]
        · rw [ownO_app, hI]
          simp [ownO, hm])
    (fun _ hI => ⟨.inl (), by unfold m48_l0; rw [lt_end]; rfl, by rw [hI]⟩) () rfl
  rw [e, Option.bind_some, hr]
  cases ownO 0 env s <;> rfl
theorem m49_eq (l : List Int) (s : Int) (h : l.length ≤ 900000000) : m49 l s = some (decide (s ∈ l)) := by
  unfold m49
  obtain ⟨r, e, h2⟩ := loop_all (step := m49_l0 l s) l (fun i (_ : Unit) => i) (fun a _ => s ∉ a) (fun r => (r = .inl () ∧ s ∉ l) ∨ (r = .inr true ∧ s ∈ l)) h
    (fun a x b _ hl hs => by
      unfold m49_l0
      rw [hl, lt_mid, idx_mid]
      simp only [cond_true, Option.bind_some, beqI]
      by_cases e : x = s
      · subst e
        exact .inl ⟨.inr true, by simp, .inr ⟨rfl, by simp⟩⟩
      · refine .inr ⟨(), by simp [e], ?_⟩
        intro h'
        rcases List.mem_append.1 h' with h' | h'
        · exact hs h'
        · exact e (List.mem_singleton.1 h').symm)
    (fun _ hs => ⟨.inl (), by unfold m49_l0; rw [lt_end]; rfl, .inl ⟨rfl, hs⟩⟩) () (by simp)
  rw [e]
  rcases h2 with ⟨rfl, h2⟩ | ⟨rfl, h2⟩
  · simp [h2]
  · simp [h2]
theorem m46_l0_eq (all nx : List Bs) (ha : all.Nodup) (hl : all.length + nx.length ≤ 900000000) : ∃ r, loopN (m46_l0 nx) FUEL (all, 0) = some r ∧ (((all ++ nx).Nodup ∧ r = .inl (all ++ nx)) ∨ (¬ (all ++ nx).Nodup ∧ r = .inr 8)) := by
  refine loop_all (step := m46_l0 nx) nx (fun k (s : List Bs) => (s, k)) (fun a s => (all ++ a).Nodup ∧ s = all ++ a) _ (by omega) ?_ ?_ all ⟨by simpa using ha, by simp⟩
  · intro a x b s e hI
    obtain ⟨h1, h2⟩ := hI
    have hal : a.length < nx.length := mid_lt e
    by_cases hx : x ∈ all ++ a
    · refine .inl ⟨.inr 8, ?_, .inr ⟨fun h3 => ?_, rfl⟩⟩
      · unfold m46_l0
        dsimp only
        rw [e, lt_mid, idx_mid]
        simp only [cond_true, Option.bind_some]
        rw [h2, m61_eq _ _ (by simp; omega), decide_eq_true hx]; rfl
      · rw [e, ← List.append_assoc, List.nodup_append] at h3
        exact h3.2.2 x hx x List.mem_cons_self rfl
    · refine .inr ⟨s ++ [x], ?_, ?_, by rw [h2, List.append_assoc]⟩
      · unfold m46_l0
        dsimp only
        rw [e, lt_mid, idx_mid]
        simp only [cond_true, Option.bind_some]
        rw [h2, m61_eq _ _ (by simp; omega), decide_eq_false hx]
        simp only [Option.bind_some, cond_false]
        rw [guard_le (by simp; omega)]
      · rw [← List.append_assoc, List.nodup_append]
        refine ⟨h1, by simp, fun y hy z hz e2 => ?_⟩
        rw [List.mem_singleton] at hz
        subst hz e2
        exact hx hy
  · intro s hI
    refine ⟨.inl s, ?_, .inl ⟨hI.1, by rw [hI.2]⟩⟩
    unfold m46_l0
    dsimp only
    rw [lt_end]; rfl
theorem m46_l2_eq (all u : List Bs) (hl : all.length ≤ 900000000) (hu : u.length ≤ 900000000) : ∃ r, loopN (m46_l2 u all) FUEL 0 = some r ∧ (((∀ s ∈ u, s ∈ all) ∧ r = .inl ()) ∨ (¬ (∀ s ∈ u, s ∈ all) ∧ r = .inr 9)) := by
  refine loop_all (step := m46_l2 u all) u (fun k (_ : Unit) => k) (fun a _ => ∀ s ∈ a, s ∈ all) _ hu ?_ ?_ () (by simp)
  · intro a x b _ e hI
    by_cases hx : x ∈ all
    · refine .inr ⟨(), ?_, fun y hy => ?_⟩
      · unfold m46_l2
        rw [e, lt_mid, idx_mid]
        simp only [cond_true, Option.bind_some]
        rw [m61_eq _ _ hl, decide_eq_true hx]; rfl
      · rcases List.mem_append.1 hy with hy | hy
        · exact hI y hy
        · rw [List.mem_singleton] at hy; subst hy; exact hx
    · refine .inl ⟨.inr 9, ?_, .inr ⟨fun h => hx (h x (by rw [e]; simp)), rfl⟩⟩
      unfold m46_l2
      rw [e, lt_mid, idx_mid]
      simp only [cond_true, Option.bind_some]
      rw [m61_eq _ _ hl, decide_eq_false hx]; rfl
  · intro _ hI
    refine ⟨.inl (), ?_, .inl ⟨hI, rfl⟩⟩
    unfold m46_l2
    rw [lt_end]; rfl
theorem m46_eq (env : List Dcl) (hl : envSz env ≤ 100000000) : ∃ r, m46 env = some r ∧ ((¬ (allNames env).Nodup ∧ r = 8) ∨ ((allNames env).Nodup ∧ ¬ closedA env env ∧ r = 9) ∨ ((allNames env).Nodup ∧ closedA env env ∧ r = 0)) := by
  have hel := env_len env
  have hal := all_len env
  unfold m46
  obtain ⟨r, e, hr⟩ := loop_all (step := m46_l1 env) env (fun k (s : List Bs) => (s, k)) (fun a s => (allNames a).Nodup ∧ s = allNames a) (fun r => ((allNames env).Nodup ∧ r = .inl (allNames env)) ∨ (¬ (allNames env).Nodup ∧ r = .inr 8)) (by omega)
    (fun a x b s e hI => by
      obtain ⟨h1, h2⟩ := hI
      have hx : x ∈ env := by rw [e]; simp
      have hxs := size_le hx
      have hnl := names_len x
      have haa := all_len a
      have hsz : envSz env = envSz a + (x.size + envSz b) := by rw [e, size_app, size_cons]
      have hll : env.length = a.length + (b.length + 1) := by rw [e]; simp
      obtain ⟨r, e1, hr⟩ := m46_l0_eq (allNames a) (names x) h1 (by omega)
      rcases hr with ⟨h3, rfl⟩ | ⟨h3, rfl⟩
      · refine .inr ⟨allNames a ++ names x, ?_, ?_, ?_⟩
        · unfold m46_l1
          dsimp only
          rw [e, lt_mid, idx_mid]
          simp only [cond_true, Option.bind_some]
          rw [m18_eq x (by omega), Option.bind_some, h2, e1]; rfl
        · rw [all_snoc]; exact h3
        · rw [all_snoc]
      · refine .inl ⟨.inr 8, ?_, .inr ⟨fun h4 => ?_, rfl⟩⟩
        · unfold m46_l1
          dsimp only
          rw [e, lt_mid, idx_mid]
          simp only [cond_true, Option.bind_some]
          rw [m18_eq x (by omega), Option.bind_some, h2, e1]; rfl
        · rw [e, show a ++ x :: b = (a ++ [x]) ++ b by simp] at h4
          have := all_nodup h4
          rw [all_snoc] at this
          exact h3 this)
    (fun s hI => ⟨.inl s, by unfold m46_l1; dsimp only; rw [lt_end]; rfl, .inl ⟨hI.1, by rw [hI.2]⟩⟩) [] ⟨List.nodup_nil, rfl⟩
  rw [e, Option.bind_some]
  rcases hr with ⟨h1, rfl⟩ | ⟨h1, rfl⟩
  · dsimp only [Sum.elim]
    obtain ⟨r, e, hr⟩ := loop_all (step := m46_l3 env (allNames env)) env (fun k (_ : Unit) => k) (fun a _ => closedA env a) (fun r => (closedA env env ∧ r = .inl ()) ∨ (¬ closedA env env ∧ r = .inr 9)) (by omega)
      (fun a x b _ e hI => by
        have hx : x ∈ env := by rw [e]; simp
        have hxs := size_le hx
        have hul := uses_len x
        obtain ⟨r, e1, hr⟩ := m46_l2_eq (allNames env) (uses x) (by omega) (by omega)
        rcases hr with ⟨h3, rfl⟩ | ⟨h3, rfl⟩
        · refine .inr ⟨(), ?_, fun d hd => ?_⟩
          · unfold m46_l3
            rw [e, lt_mid, idx_mid]
            simp only [cond_true, Option.bind_some]
            rw [m47_eq x (by omega), Option.bind_some, ← e, e1]; rfl
          · rcases List.mem_append.1 hd with hd | hd
            · exact hI d hd
            · rw [List.mem_singleton] at hd; subst hd; exact h3
        · refine .inl ⟨.inr 9, ?_, .inr ⟨fun h => h3 (h x hx), rfl⟩⟩
          unfold m46_l3
          rw [e, lt_mid, idx_mid]
          simp only [cond_true, Option.bind_some]
          rw [m47_eq x (by omega), Option.bind_some, ← e, e1]; rfl)
      (fun _ hI => ⟨.inl (), by unfold m46_l3; rw [lt_end]; rfl, .inl ⟨hI, rfl⟩⟩) () (by simp [closedA])
    rw [e, Option.bind_some]
    rcases hr with ⟨h2, rfl⟩ | ⟨h2, rfl⟩
    · exact ⟨0, rfl, .inr (.inr ⟨h1, h2, rfl⟩)⟩
    · exact ⟨9, rfl, .inr (.inl ⟨h1, h2, rfl⟩)⟩
  · exact ⟨8, rfl, .inl ⟨h1, rfl⟩⟩
theorem m25_l0_eq (env : List Dcl) (hl : envSz env ≤ 100000000) (u : List Bs) (hu : u.length ≤ 900000000) (h : ∀ s ∈ u, s ∈ allNames env) : loopN (m25_l0 u env) FUEL ([], 0) = some (u.map (ownV env)) := by
  obtain ⟨r, e, rfl⟩ := loop_all (step := m25_l0 u env) u (fun k (s : List Int) => (s, k)) (fun a s => s = a.map (ownV env)) (fun r => r = u.map (ownV env)) hu
    (fun a x b s e hI => .inr ⟨s ++ [ownV env x], by
      have hal : a.length < u.length := mid_lt e
      unfold m25_l0
      dsimp only
      obtain ⟨k, hk, e2⟩ := ownV_range (h x (by rw [e]; simp))
      rw [e, lt_mid, idx_mid]
      simp only [cond_true, Option.bind_some]
      rw [m48_eq env x hl, Option.bind_some, guard_le (by rw [hI]; simp; omega)]
      unfold ownV
      rw [e2]; rfl, by rw [hI]; simp⟩)
    (fun s hI => ⟨s, by unfold m25_l0; dsimp only; rw [lt_end]; rfl, hI⟩) [] rfl
  exact e
theorem m25_l1_eq (env : List Dcl) (hl : envSz env ≤ 100000000) (o : List Int) (ho : o.length ≤ 900000000) : loopN (m25_l1 env o) FUEL ([], 0) = some (((List.range env.length).map fun (k : Nat) => (k : Int)).filter fun j => decide (j ∈ o)) := by
  have hel := env_len env
  obtain ⟨r, e, rfl⟩ := loop_all (step := m25_l1 env o) env (fun k (s : List Int) => (s, k)) (fun a s => s = ((List.range a.length).map fun (k : Nat) => (k : Int)).filter fun j => decide (j ∈ o)) (fun r => r = ((List.range env.length).map fun (k : Nat) => (k : Int)).filter fun j => decide (j ∈ o)) (by omega)
    (fun a x b s e hI => .inr ⟨s ++ (if (a.length : Int) ∈ o then [(a.length : Int)] else []), by
      have hal : a.length < env.length := mid_lt e
      have hsl : s.length ≤ a.length := by
        rw [hI]
        refine Nat.le_trans (List.length_filter_le _ _) ?_
        simp
      unfold m25_l1
      dsimp only
      rw [e, lt_mid]
      simp only [cond_true]
      rw [m49_eq o _ ho, Option.bind_some]
      by_cases hm : (a.length : Int) ∈ o
      · rw [decide_eq_true hm, if_pos hm, cond_true, guard_le (by simp; omega)]
      · rw [decide_eq_false hm, if_neg hm, cond_false, List.append_nil], by
      rw [hI]
      simp only [List.length_append, List.length_cons, List.length_nil]
      rw [show a.length + (0 + 1) = a.length + 1 from rfl, List.range_succ, List.map_append, List.filter_append]
      congr 1
      simp only [List.map_cons, List.map_nil, List.filter_cons, List.filter_nil, decide_eq_true_eq]⟩)
    (fun s hI => ⟨s, by unfold m25_l1; dsimp only; rw [lt_end]; rfl, hI⟩) [] rfl
  exact e
theorem m25_eq (env : List Dcl) (hl : envSz env ≤ 100000000) : ∃ r, m25 env = some r ∧ Says env r := by
  have hel := env_len env
  unfold m25
  obtain ⟨r, e, hr⟩ := m46_eq env hl
  rw [e, Option.bind_some]
  rcases hr with ⟨h1, rfl⟩ | ⟨h1, h2, rfl⟩ | ⟨h1, h2, rfl⟩
  · exact ⟨([], 8), rfl, .twice h1⟩
  · exact ⟨([], 9), rfl, .none h1 h2⟩
  · refine ⟨(graphL env, 0), ?_, .ok h1 h2⟩
    show Option.bind (loopN (m25_l2 env) FUEL (([] : List (List Int)), 0)) _ = _
    obtain ⟨r, e, rfl⟩ := loop_all (step := m25_l2 env) env (fun k (s : List (List Int)) => (s, k)) (fun a s => s = a.map (row env)) (fun r => r = graphL env) (by omega)
      (fun a x b s e hI => .inr ⟨s ++ [row env x], by
        have hx : x ∈ env := by rw [e]; simp
        have hxs := size_le hx
        have hul := uses_len x
        have hal : a.length < env.length := mid_lt e
        unfold m25_l2
        dsimp only
        rw [e, lt_mid, idx_mid]
        simp only [cond_true, Option.bind_some]
        rw [m47_eq x (by omega), Option.bind_some, ← e, m25_l0_eq env hl (uses x) (by omega) (h2 x hx), Option.bind_some, m25_l1_eq env hl _ (by simp; omega), Option.bind_some, guard_le (by rw [hI]; simp; omega)]
        rfl, by rw [hI]; simp⟩)
      (fun s hI => ⟨s, by unfold m25_l2; dsimp only; rw [lt_end]; rfl, hI⟩) [] rfl
    rw [e]; rfl
end Go.Proofs.Ytijcchddnnnmdaa
namespace Go.Proofs.Ytijcchddnnnmdaa
open Go.RowKit Go.Shelf
set_option linter.unusedSimpArgs false
set_option linter.unusedVariables false
theorem ag_54 : tyAgg Try.prog 54 = some (false, 1) := by kernel_rfl
theorem ag_75 : tyAgg Try.prog 75 = some (false, 1) := by kernel_rfl
theorem sl_75 : tySlice Try.prog 75 = some (4, 1) := by kernel_rfl
theorem z_4 : tyZero Try.prog 4 = some [.bool false] := by kernel_rfl
theorem z_75 : tyZero Try.prog 75 = some [.slice none 0 0] := by kernel_rfl
theorem el_4 : tyElem Try.prog 4 = some (1, 1) := by kernel_rfl
theorem en_22 : Enters Try.prog 22 := enters_of Try.func22 (by kernel_rfl) rfl
theorem en_43 : Enters Try.prog 43 := enters_of Try.func43 (by kernel_rfl) rfl
theorem en_44 : Enters Try.prog 44 := enters_of Try.func44 (by kernel_rfl) rfl
theorem en_60 : Enters Try.prog 60 := enters_of Try.func60 (by kernel_rfl) rfl
def m44f7 (a0 : Int) (a1 : Nat) (a2 : List Bool) : Option Bool :=
  Option.bind (idx a2 a0) fun (x1 : Bool) =>
  guardO (Nat.beq a2.length a1)
  (some (!x1))
set_option maxRecDepth 100000 in
set_option maxHeartbeats 2000000 in
theorem m44f7_ok (a0 : Int) (a1 : Nat) (a2 : List Bool) (r : Bool) (h0 : m44f7 a0 a1 a2 = some r) : CallM Try.prog 44 [.one (dI a0), .one (.ptr 0 0)] ⟨[(0, .cells 75 [.osl 1 0 a1 a1]), (1, .cells 4 (flatE a2))], [], 2⟩ (resOf [.one (dB r)]) ⟨[(0, .cells 75 [.osl 1 0 a1 a1]), (1, .cells 4 (flatE a2))], [], 2⟩ := by
  unfold m44f7 at h0
  refine CallM.of_bodyD ⟨[(3, .v (.one (dB r)))], [(0, .cells 75 [.osl 1 0 a1 a1]), (1, .cells 4 (flatE a2))], [], 2, 9, []⟩ rfl rfl en_44 (lb rfl) rfl (RAs.tmp rfl .nil) (fun w0 M V0 Q hv0 hQ0 => ?_)
  simp only [entry]
  refine XC.seq <| XC.region <| rA rfl rfl rfl <| XL.nil <| XQ.seq <| XC.seq <| XC.region <| rR rfl rfl rfl (RO.loadOwn ag_75 rfl rfl rfl) <| rM rfl rfl rfl ?_
  refine bindK h0 (fun x1 hx1 h0 => ?_)
  refine guardK h0 (fun g2 h0 => ?_)
  refine rR rfl rfl rfl (RO.indexO (α := Bool) sl_75 rfl rfl hx1 g2) <| rR rfl rfl rfl (RO.loadOF (α := Bool) (m := a0) (f := 0) ag_4 rfl rfl hx1 rfl) <| rR rfl rfl rfl (RO.not rfl) <| rA rfl rfl rfl <| XL.nil <| XQ.seq <| XC.ret ?_
  have e_ := Option.some.inj h0
  subst e_
  exact hQ0 _ _ _ (.inr rfl) rfl (stle (tR rfl tZ) (hR rfl (hR rfl hZ)) kZ rfl (Nat.le_trans hv0 (lb rfl)) rfl rfl rfl (bB rfl rfl (bF rfl bZ)) rfl rfl)
def m60f6_l0 (a0 : List Int) (a1 : Nat) (a2 : List Bool) (s1 : Int) : Option (LO Int (Unit ⊕ Int)) :=
  cond (decide (s1 < (a0.length : Int)))
    (Option.bind (idx a0 s1) fun (x3 : Int) =>
  Option.bind (m44f7 x3 a1 a2) fun (x4 : Bool) =>
  cond x4
    (some (.done (.inr s1)))
    (some (.next (w64 (s1 + 1)))))
    (some (.done (.inl ())))
def m60f6 (a0 : List Int) (a1 : Nat) (a2 : List Bool) : Option Int :=
  Option.bind (loopN (m60f6_l0 a0 a1 a2) FUEL 0) (Sum.elim (fun (o1 : Unit) => some (-1)) (fun o => some o))
set_option maxRecDepth 100000 in
set_option maxHeartbeats 2000000 in
theorem m60f6_ok (a0 : List Int) (a1 : Nat) (a2 : List Bool) (r : Int) (h0 : m60f6 a0 a1 a2 = some r) : CallM Try.prog 60 [.one (dS a0), .one (.fn 44 [(0, 0)])] ⟨[(0, .cells 75 [.osl 1 0 a1 a1]), (1, .cells 4 (flatE a2))], [], 2⟩ (resOf [.one (dI r)]) ⟨[(0, .cells 75 [.osl 1 0 a1 a1]), (1, .cells 4 (flatE a2))], [], 2⟩ := by
  unfold m60f6 at h0
  refine CallM.of_bodyD ⟨[(4, .v (.one (dI r)))], [(0, .cells 75 [.osl 1 0 a1 a1]), (1, .cells 4 (flatE a2))], [], 2, 19, []⟩ rfl rfl en_60 (lb rfl) rfl (RAs.tmp rfl .nil) (fun w0 M V0 Q hv0 hQ0 => ?_)
  simp only [entry]
  refine XC.seq <| XC.region <| rA rfl rfl rfl <| XL.nil <| XQ.seq <| XC.seq <| XC.seq <| XC.region <| rM rfl rfl rfl <| rR rfl rfl rfl (RO.lenE (α := Int) sl_54 rfl (.d _)) <| rM rfl rfl rfl <| XL.nil <| XQ.seq <| XC.block ?_
  refine XC.joinX 0 (fun (o1 : Unit) => ⟨[], [(0, .cells 75 [.osl 1 0 a1 a1]), (1, .cells 4 (flatE a2))], [], 2, 19, []⟩) (fun (o1 : Unit) => (some (-1)) = some r) ?_ ?_
  ·
   refine bindK h0 (fun o2 hl1 h0 => ?_)
   refine XC.loopM (m60f6_l0 a0 a1 a2) (fun s1 => ⟨[(0, .v (.one (dS a0))), (1, .v (.one (.fn 44 [(0, 0)]))), (7, .v (.one (dI (a0.length : Int)))), (8, .v (.one (dI s1)))], [(0, .cells 75 [.osl 1 0 a1 a1]), (1, .cells 4 (flatE a2))], [], 2, 19, []⟩) 0 o2 (stle (tR rfl (tR rfl (tR rfl (tR rfl tZ)))) (hR rfl (hR rfl hZ)) kZ rfl (Nat.le_trans hv0 (lb rfl)) rfl rfl rfl (bB rfl rfl (bF rfl bZ)) rfl rfl) hl1 (fun s1 n1 oo1 h1 ho1 => ?_)
   unfold m60f6_l0 at h1
   refine XC.seq <| XC.region <| rR rfl rfl rfl (RO.binInt rfl rfl rfl) <| XL.nil <| XQ.seq <| XC.seq ?_
   refine XC.cond (b := (decide (s1 < (a0.length : Int)))) rfl (fun c3 => ?_) (fun c3 => ?_)
   ·
    replace h1 := condT c3 h1
    refine XC.skip <| XQ.seq <| XC.seq <| XC.block <| XC.seq <| XC.region <| rM rfl rfl rfl <| rA rfl rfl rfl <| XL.nil <| XQ.seq <| XC.seq <| XC.region <| rM rfl rfl rfl <| rM rfl rfl rfl ?_
    refine rM rfl rfl rfl ?_
    refine bindK h1 (fun x4 hx4 h1 => ?_)
    refine rR rfl rfl rfl (RO.indexE (α := Int) sl_54 rfl (.d _) rfl hx4) <| rR rfl rfl rfl (RO.loadPel ag_3 rfl rfl) ?_
    refine bindK h1 (fun x5 hx5 h1 => ?_)
    refine XL.put rfl rfl (lb rfl) (OpOK.callG (hp1' := [(0, .cells 75 [.osl 1 0 a1 a1]), (1, .cells 4 (flatE a2))]) (tk1' := []) (hpF := []) (tkF := []) (res2 := resOf [.one (dB x5)]) (nx2 := 2) [0, 1] rfl rfl (m44f7_ok x4 a1 a2 x5 hx5) rfl rfl (qB rfl rfl (qF rfl qZ)) rfl rfl (gR rfl (gF rfl gZ)) jZ hZ kZ rfl rfl rfl rfl rfl (bB rfl rfl (bF rfl bZ)) rfl rfl rfl rfl) <| XL.nil <| XQ.seq ?_
    refine XC.cond (b := x5) rfl (fun c6 => ?_) (fun c6 => ?_)
    ·
     replace h1 := condT c6 h1
     refine XC.seq <| XC.region <| rM rfl rfl rfl <| rA rfl rfl rfl <| XL.nil <| XQ.seq <| XC.ret ?_
     have e_ := Option.some.inj h1
     subst e_
     have e_ : _ = _ := ho1
     subst e_
     try dsimp only [Sum.elim_inl, Sum.elim_inr] at h0
     have e_ := Option.some.inj h0
     subst e_
     exact hQ0 _ _ _ (.inr rfl) rfl (stle (tR rfl tZ) (hR rfl (hR rfl hZ)) kZ rfl (Nat.le_trans hv0 (lb rfl)) rfl rfl rfl (bB rfl rfl (bF rfl bZ)) rfl rfl)
    ·
     replace h1 := condF c6 h1
     refine XC.skip <| XQ.inBlock <| XQ.seq <| XC.region <| rR rfl rfl rfl (RO.binInt rfl rfl rfl) <| rM rfl rfl rfl <| XL.nil ?_
     have e_ := Option.some.inj h1
     subst e_
     refine XQ.nextM (w64 (s1 + 1)) (stle (tR rfl (tR rfl (tR rfl (tR rfl tZ)))) (hR rfl (hR rfl hZ)) kZ rfl (Nat.le_trans hv0 (lb rfl)) rfl rfl rfl (bB rfl rfl (bF rfl bZ)) rfl rfl) ho1
   ·
    replace h1 := condF c3 h1
    refine XC.exit <| XQ.thenE <| XQ.thenE ?_
    have e_ := Option.some.inj h1
    subst e_
    have e_ : _ = _ := ho1
    subst e_
    exact XQ.joinX () (stle tZ (hR rfl (hR rfl hZ)) kZ rfl (Nat.le_trans hv0 (lb rfl)) rfl rfl rfl (bB rfl rfl (bF rfl bZ)) rfl rfl) h0
  ·
   intro o1 h0
   refine XQ.blockX <| XQ.seq <| XC.seq <| XC.region <| rA rfl rfl rfl <| XL.nil <| XQ.seq <| XC.ret ?_
   have e_ := Option.some.inj h0
   subst e_
   exact hQ0 _ _ _ (.inr rfl) rfl (stle (tR rfl tZ) (hR rfl (hR rfl hZ)) kZ rfl (Nat.le_trans hv0 (lb rfl)) rfl rfl rfl (bB rfl rfl (bF rfl bZ)) rfl rfl)
def m43f5 (a0 : List Int) (a1 : Nat) (a2 : List Bool) : Option Bool :=
  Option.bind (m60f6 a0 a1 a2) fun (x1 : Int) =>
  some (decide (0 ≤ x1))
set_option maxRecDepth 100000 in
set_option maxHeartbeats 2000000 in
theorem m43f5_ok (a0 : List Int) (a1 : Nat) (a2 : List Bool) (r : Bool) (h0 : m43f5 a0 a1 a2 = some r) : CallM Try.prog 43 [.one (dS a0), .one (.fn 44 [(0, 0)])] ⟨[(0, .cells 75 [.osl 1 0 a1 a1]), (1, .cells 4 (flatE a2))], [], 2⟩ (resOf [.one (dB r)]) ⟨[(0, .cells 75 [.osl 1 0 a1 a1]), (1, .cells 4 (flatE a2))], [], 2⟩ := by
  unfold m43f5 at h0
  refine CallM.of_bodyD ⟨[(4, .v (.one (dB r)))], [(0, .cells 75 [.osl 1 0 a1 a1]), (1, .cells 4 (flatE a2))], [], 2, 9, []⟩ rfl rfl en_43 (lb rfl) rfl (RAs.tmp rfl .nil) (fun w0 M V0 Q hv0 hQ0 => ?_)
  simp only [entry]
  refine XC.seq <| XC.region <| rA rfl rfl rfl <| XL.nil <| XQ.seq <| XC.seq <| XC.region <| rM rfl rfl rfl <| rM rfl rfl rfl ?_
  refine bindK h0 (fun x1 hx1 h0 => ?_)
  refine XL.put rfl rfl (lb rfl) (OpOK.callG (hp1' := [(0, .cells 75 [.osl 1 0 a1 a1]), (1, .cells 4 (flatE a2))]) (tk1' := []) (hpF := []) (tkF := []) (res2 := resOf [.one (dI x1)]) (nx2 := 2) [0, 1] rfl rfl (m60f6_ok a0 a1 a2 x1 hx1) rfl rfl (qB rfl rfl (qF rfl qZ)) rfl rfl (gR rfl (gF rfl gZ)) jZ hZ kZ rfl rfl rfl rfl rfl (bB rfl rfl (bF rfl bZ)) rfl rfl rfl rfl) <| rR rfl rfl rfl (RO.binInt rfl rfl rfl) <| rA rfl rfl rfl <| XL.nil <| XQ.seq <| XC.ret ?_
  have e_ := Option.some.inj h0
  subst e_
  exact hQ0 _ _ _ (.inr rfl) rfl (stle (tR rfl tZ) (hR rfl (hR rfl hZ)) kZ rfl (Nat.le_trans hv0 (lb rfl)) rfl rfl rfl (bB rfl rfl (bF rfl bZ)) rfl rfl)
def m22_l0 (x9 : (List Bs)) (s2 : Int × (GMap Bs Int)) (s3 : Int × (GMap Bs Int)) : Option (LO (Int × (GMap Bs Int)) (((GMap Bs Int)) ⊕ (((List (List Int)) × (GMap Bs Int)) ⊕ Unit ⊕ Unit))) :=
  cond (decide (s3.1 < (x9.length : Int)))
    (Option.bind (idx x9 s3.1) fun (x12 : Bs) =>
  cond (gmHas s3.2 x12)
    (some (.done (.inr (.inr (.inl ())))))
    (some (.next ((w64 (s3.1 + 1)), (gmSet s3.2 x12 s2.1)))))
    (some (.done (.inl s3.2)))
def m22_l1 (a0 : List Dcl) (s2 : Int × (GMap Bs Int)) : Option (LO (Int × (GMap Bs Int)) (((GMap Bs Int)) ⊕ (((List (List Int)) × (GMap Bs Int)) ⊕ Unit ⊕ Unit))) :=
  cond (decide (s2.1 < (a0.length : Int)))
    (Option.bind (idx a0 s2.1) fun (x8 : Dcl) =>
  Option.bind (m37 x8) fun (x9 : (List Bs)) =>
  Option.bind (loopN (m22_l0 x9 s2) FUEL (0, s2.2)) (Sum.elim (fun (o10 : (GMap Bs Int)) => some (.next ((w64 (s2.1 + 1)), o10))) (fun o => some (.done (.inr o)))))
    (some (.done (.inl s2.2)))
def m22_l2 (x10 : (List Bs)) (o6 : (GMap Bs Int)) (s3 : (List Int) × Int) : Option (LO ((List Int) × Int) (((List Int)) ⊕ (((List (List Int)) × (GMap Bs Int)) ⊕ Unit ⊕ Unit))) :=
  cond (decide (s3.2 < (x10.length : Int)))
    (Option.bind (idx x10 s3.2) fun (x13 : Bs) =>
  cond (!(gmHas o6 x13))
    (some (.done (.inr (.inr (.inr ())))))
    (guardO (Nat.ble (s3.1.length + ([(gmVal o6 x13)]).length) 1000000000)
  (some (.next ((s3.1 ++ ([(gmVal o6 x13)])), (w64 (s3.2 + 1)))))))
    (some (.done (.inl s3.1)))
def m22_l3 (a0 : List Dcl) (o6 : (GMap Bs Int)) (s2 : Int × (List (List Int))) : Option (LO (Int × (List (List Int))) (((List (List Int))) ⊕ (((List (List Int)) × (GMap Bs Int)) ⊕ Unit ⊕ Unit))) :=
  cond (decide (s2.1 < (a0.length : Int)))
    (Option.bind (idx a0 s2.1) fun (x9 : Dcl) =>
  Option.bind (m53 x9) fun (x10 : (List Bs)) =>
  Option.bind (loopN (m22_l2 x10 o6) FUEL (([] : List Int), 0)) (Sum.elim (fun (o11 : (List Int)) => Option.bind (sortF o11) fun (x12 : List Int) =>
  Option.bind (compactF x12 ((Enc.encL o11).length)) fun (x13 : List Int) =>
  guardO (Nat.ble (s2.2.length + ([x13]).length) 1000000000)
  (some (.next ((w64 (s2.1 + 1)), (s2.2 ++ ([x13])))))) (fun o => some (.done (.inr o)))))
    (some (.done (.inl s2.2)))
def m22_l4 (y1 : (List (List Int)) × (GMap Bs Int)) (s1 : (List Int) × (List Bool)) (a0 : List Dcl) (s2 : Int) : Option (LO Int Int) :=
  cond (decide (s2 < (y1.1.length : Int)))
    (Option.bind (idx y1.1 s2) fun (x35 : List Int) =>
  Option.bind (Option.bind (idx s1.2 s2) fun (x37 : Bool) =>
  guardO (Nat.beq s1.2.length ((a0.length : Int).toNat))
  (cond (!x37)
    (Option.bind (m43f5 x35 ((a0.length : Int).toNat) s1.2) fun (x40 : Bool) =>
  some (!x40))
    (some false))) (fun (v36 : Bool) => cond v36
    (some (.done s2))
    (some (.next (w64 (s2 + 1))))))
    (some (.done (-1)))
def m22_l5 (a0 : List Dcl) (y1 : (List (List Int)) × (GMap Bs Int)) (s1 : (List Int) × (List Bool)) : Option (LO ((List Int) × (List Bool)) (((List Int) × (List Bool)) ⊕ ((List Int) × Int))) :=
  cond (decide ((s1.1.length : Int) < (a0.length : Int)))
    (Option.bind (loopN (m22_l4 y1 s1 a0) FUEL 0) (fun (o33 : Int) => cond (decide (o33 < 0))
    (some (.done (.inr (([] : List Int), 22))))
    (Option.bind (idx s1.2 o33) fun (x35 : Bool) =>
  guardO (Nat.beq s1.2.length ((a0.length : Int).toNat))
  (guardO (Nat.ble (s1.1.length + ([o33]).length) 1000000000)
  (some (.next ((s1.1 ++ ([o33])), (s1.2.set o33.toNat true))))))))
    (some (.done (.inl (s1.1, s1.2))))
def m22 (a0 : List Dcl) : Option ((List Int) × Int) :=
  Option.bind (Option.bind (loopN (m22_l1 a0) FUEL (0, gmNil)) (Sum.elim (fun (o6 : (GMap Bs Int)) => Option.bind (loopN (m22_l3 a0 o6) FUEL (0, ([] : List (List Int)))) (Sum.elim (fun (o7 : (List (List Int))) => some (.inl (o7, o6))) (fun o => some o))) (fun o => some o))) (Sum.elim (fun (y1 : (List (List Int)) × (GMap Bs Int)) => guardO (cond (decide (0 ≤ (a0.length : Int))) (Nat.ble (1 * (a0.length : Int).toNat) 281474976710656) false)
  (Option.bind (loopN (m22_l5 a0 y1) FUEL (([] : List Int), (List.replicate (a0.length : Int).toNat false))) (Sum.elim (fun (o31 : (List Int) × (List Bool)) => some (o31.1, 0)) (fun o => some o)))) (Sum.elim (fun (y2 : Unit) => some (([] : List Int), 8)) (fun (y3 : Unit) => some (([] : List Int), 9))))
end Go.Proofs.Ytijcchddnnnmdaa
namespace Go.Proofs.Ytijcchddnnnmdaa
open Go.RowKit Go.Shelf
set_option linter.unusedSimpArgs false
set_option linter.unusedVariables false
def m26_l0 (x1 : (List (List Int)) × Int) (s2 : Int × Int) (s1 : (List Int)) (s3 : Bool × Int) : Option (LO (Bool × Int) Bool) :=
  Option.bind (idx x1.1 s2.2) fun (x10 : List Int) =>
  cond (decide (s3.2 < (x10.length : Int)))
    (Option.bind (cond s3.1
    (Option.bind (idx x1.1 s2.2) fun (x14 : List Int) =>
  Option.bind (idx x14 s3.2) fun (x15 : Int) =>
  Option.bind (m49 s1 x15) fun (x16 : Bool) =>
  some x16)
    (some false)) (fun (v12 : Bool) => some (.next (v12, (w64 (s3.2 + 1))))))
    (some (.done s3.1))
def m26_l1 (a0 : List Dcl) (s1 : (List Int)) (x1 : (List (List Int)) × Int) (s2 : Int × Int) : Option (LO (Int × Int) Int) :=
  Option.bind (cond (decide (s2.2 < (a0.length : Int)))
    (some (decide (s2.1 < 0)))
    (some false)) (fun (v6 : Bool) => cond v6
    (Option.bind (m49 s1 s2.2) fun (x8 : Bool) =>
  Option.bind (loopN (m26_l0 x1 s2 s1) FUEL ((!x8), 0)) (fun (o9 : Bool) => cond o9
    (some (.next (s2.2, (w64 (s2.2 + 1)))))
    (some (.next (s2.1, (w64 (s2.2 + 1)))))))
    (some (.done s2.1)))
def m26_l2 (a0 : List Dcl) (x1 : (List (List Int)) × Int) (s1 : (List Int)) : Option (LO ((List Int)) (((List Int)) ⊕ ((List Int) × Int))) :=
  cond (decide ((s1.length : Int) < (a0.length : Int)))
    (Option.bind (loopN (m26_l1 a0 s1 x1) FUEL ((-1), 0)) (fun (o5 : Int) => cond (decide (o5 < 0))
    (some (.done (.inr (([] : List Int), 22))))
    (guardO (Nat.ble (s1.length + ([o5]).length) 1000000000)
  (some (.next (s1 ++ ([o5])))))))
    (some (.done (.inl s1)))
def m26 (a0 : List Dcl) : Option ((List Int) × Int) :=
  Option.bind (m25 a0) fun (x1 : (List (List Int)) × Int) =>
  cond (x1.2 != 0)
    (some (([] : List Int), x1.2))
    (Option.bind (loopN (m26_l2 a0 x1) FUEL ([] : List Int)) (Sum.elim (fun (o3 : (List Int)) => some (o3, 0)) (fun o => some o)))
end Go.Proofs.Ytijcchddnnnmdaa
namespace Go.Proofs.Ytijcchddnnnmdaa
open Go.RowKit Go.Lib
set_option linter.unusedSimpArgs false
set_option linter.unusedVariables false
set_option linter.unusedSectionVars false
def Gr (g : List (List Int)) (n : Nat) : Prop := g.length = n ∧ ∀ l ∈ g, l.length ≤ n ∧ ∀ j ∈ l, ∃ k : Nat, k < n ∧ j = (k : Int)
theorem graph_gr {env : List Dcl} (h : closedA env env) : Gr (graphL env) env.length := by
  refine ⟨by unfold graphL; simp, fun l hl => ?_⟩
  unfold graphL at hl
  obtain ⟨d, hd, rfl⟩ := List.mem_map.1 hl
  refine ⟨?_, fun j hj => ?_⟩
  · unfold row
    refine Nat.le_trans (List.length_filter_le _ _) ?_
    simp
  · unfold row at hj
    obtain ⟨k, hk, rfl⟩ := List.mem_map.1 (List.mem_filter.1 hj).1
    exact ⟨k, List.mem_range.1 hk, rfl⟩
def readyL (out : List Int) (i : Nat) (l : List Int) : Bool := decide ((i : Int) ∉ out) && l.all fun j => decide (j ∈ out)
def pickF (out : List Int) : Nat → List (List Int) → Option Nat
  | _, [] => none
  | i, l :: g => if readyL out i l then some i else pickF out (i + 1) g
def orderG (g : List (List Int)) : Nat → List Int → List Int ⊕ Unit
  | 0, out => .inl out
  | k + 1, out => match pickF out 0 g with
    | none => .inr ()
    | some i => orderG g k (out ++ [(i : Int)])
inductive OSays (env : List Dcl) : List Int × Int → Prop
  | twice (h : ¬ (allNames env).Nodup) : OSays env ([], 8)
  | none (h : (allNames env).Nodup) (h2 : ¬ closedA env env) : OSays env ([], 9)
  | loop (h : (allNames env).Nodup) (h2 : closedA env env) (h3 : orderG (graphL env) env.length [] = .inr ()) : OSays env ([], 22)
  | ok (h : (allNames env).Nodup) (h2 : closedA env env) (o : List Int) (h3 : orderG (graphL env) env.length [] = .inl o) : OSays env (o, 0)
end Go.Proofs.Ytijcchddnnnmdaa
namespace Go.Proofs.Ytijcchddnnnmdaa
open Go.RowKit
set_option linter.unusedSimpArgs false
set_option linter.unusedVariables false
set_option linter.unusedSectionVars false
def rowCell (base : Nat) (es : List (List Int)) (k : Nat) : CA := .app (base + k % 1000) 1 (Enc.encL (es.getD k []))
def rowCells (base : Nat) (es : List (List Int)) : List CA := (List.range es.length).map (rowCell base es)
def rowToks (base : Nat) (es : List (List Int)) : List (Nat × Option Tok) := (List.range (min es.length 1000)).map fun k => (base + k % 1000, some ⟨3, 1, (Enc.encL (es.getD k [])).length, []⟩)
theorem rowCells_get {base : Nat} {es : List (List Int)} {k : Nat} {row : List Int} (h : es[k]? = some row) : (rowCells base es)[k]? = some (.app (base + k % 1000) 1 (Enc.encL row)) := by
  have hlt := (List.getElem?_eq_some_iff.1 h).1
  have e1 : es.getD k [] = row := by rw [List.getD_eq_getElem?_getD, h]; rfl
  simp only [rowCells, rowCell, List.getElem?_map, List.getElem?_range hlt, Option.map_some, e1]
theorem rowCells_len (base : Nat) (es : List (List Int)) : (rowCells base es).length = es.length := by simp [rowCells]
theorem rowCells_set {base : Nat} {es : List (List Int)} {k : Nat} {row : List Int} (hk : k < es.length) : (rowCells base es).set k (.app (base + k % 1000) 1 (Enc.encL row)) = rowCells base (es.set k row) := by
  apply List.ext_getElem?
  intro j
  rw [List.getElem?_set, rowCells_len]
  by_cases hj : k = j
  · subst hj
    rw [if_pos rfl, if_pos hk, rowCells_get (row := row) (by rw [List.getElem?_set, if_pos rfl, if_pos hk])]
  · rw [if_neg hj]
    cases h : es[j]? with
    | none =>
      have h1 : es.length ≤ j := List.getElem?_eq_none_iff.1 h
      rw [List.getElem?_eq_none (by rw [rowCells_len]; exact h1), List.getElem?_eq_none (by rw [rowCells_len, List.length_set]; exact h1)]
    | some r => rw [rowCells_get h, rowCells_get (row := r) (by rw [List.getElem?_set, if_neg hj]; exact h)]
theorem lk_rangeMap {α : Type} (f : Nat → Nat) (v : Nat → α) : ∀ (l : List Nat) (k : Nat), k ∈ l → (∀ a ∈ l, f a = f k → a = k) → lk (l.map fun a => (f a, v a)) (f k) = some (v k)
  | a :: l, k, hk, hi => by
    rw [List.map_cons, lk_cons]
    by_cases h : f a = f k
    · rw [if_pos h, hi a List.mem_cons_self h]
    · rw [if_neg h]
      have : k ∈ l := (List.mem_cons.1 hk).resolve_left fun e => h (by rw [e])
      exact lk_rangeMap f v l k this fun b hb => hi b (List.mem_cons_of_mem _ hb)
theorem rowToks_get {base : Nat} {es : List (List Int)} {k : Nat} {row : List Int} (h : es[k]? = some row) (hl : es.length ≤ 1000) : lk (rowToks base es) (base + k % 1000) = some (some ⟨3, 1, (Enc.encL row).length, []⟩) := by
  have hlt := (List.getElem?_eq_some_iff.1 h).1
  have e1 : es.getD k [] = row := by rw [List.getD_eq_getElem?_getD, h]; rfl
  have := lk_rangeMap (fun a => base + a % 1000) (fun a => (some ⟨3, 1, (Enc.encL (es.getD a [])).length, []⟩ : Option Tok)) (List.range (min es.length 1000)) k (List.mem_range.2 (by omega)) (fun a ha e => by
    have := List.mem_range.1 ha
    rw [Nat.mod_eq_of_lt (by omega), Nat.mod_eq_of_lt (by omega)] at e
    omega)
  rw [e1] at this
  exact this
theorem rowToks_all (base nx : Nat) (es : List (List Int)) (h : Nat.ble (base + 1000) nx = true) : ((rowToks base es).all fun p => Nat.blt p.1 nx) = true := by
  have h1 := Nat.le_of_ble_eq_true h
  refine List.all_eq_true.2 fun p hp => ?_
  obtain ⟨k, -, rfl⟩ := List.mem_map.1 hp
  have : k % 1000 < 1000 := Nat.mod_lt _ (by decide)
  exact Nat.ble_eq_true_of_le (by dsimp only; omega)
theorem rowCells_below (base nx : Nat) (es : List (List Int)) (h : Nat.ble (base + 1000) nx = true) : ∀ x ∈ rowCells base es, x.below nx := fun x hx => by
  have h1 := Nat.le_of_ble_eq_true h
  obtain ⟨k, -, rfl⟩ := List.mem_map.1 hx
  have : k % 1000 < 1000 := Nat.mod_lt _ (by decide)
  show base + k % 1000 < nx
  omega
abbrev nilC : CA := .d (.v (.slice none 0 0))
theorem getD_rep {α : Type} (n k : Nat) : (List.replicate n ([] : List α)).getD k [] = [] := by
  rw [List.getD_eq_getElem?_getD, List.getElem?_replicate]
  split <;> rfl
theorem rowCells_rep (base n : Nat) : rowCells base (List.replicate (n + 1) []) = rowCells base (List.replicate n []) ++ [.app (base + n % 1000) 1 []] := by
  unfold rowCells rowCell
  rw [List.length_replicate, List.length_replicate, List.range_succ, List.map_append]
  congr 1
  · exact List.map_congr_left fun k hk => by rw [getD_rep, getD_rep]
  · rw [List.map_singleton, getD_rep]; rfl
theorem rowToks_rep (base n : Nat) (hn : n < 1000) : rowToks base (List.replicate (n + 1) []) = rowToks base (List.replicate n []) ++ [(base + n % 1000, some ⟨3, 1, 0, []⟩)] := by
  unfold rowToks
  rw [List.length_replicate, List.length_replicate, Nat.min_eq_left (by omega), Nat.min_eq_left (by omega), List.range_succ, List.map_append]
  congr 1
  · exact List.map_congr_left fun k hk => by rw [getD_rep, getD_rep]
  · rw [List.map_singleton, getD_rep]; rfl
theorem HRel.adoptRows {E : Env} {V : Vu} {hp : List (Nat × HB)} {tk : List (Nat × Option Tok)} {w : World} (H : HRel E V hp tk w) {i : Nat} {T : TypeId} (n : Nat) (hn : n ≤ 1000) (hi : lk hp i = some (.cells T (List.replicate n nilC))) :
    ∀ k, k ≤ n → ∃ V', HRel E V' ((i, .cells T (rowCells V.nx (List.replicate k []) ++ List.replicate (n - k) nilC)) :: hp) (rowToks V.nx (List.replicate k [])) w ∧ V.Le V' w w ∧ V'.nx = V.nx + k := by
  intro k
  induction k with
  | zero =>
    intro _
    refine ⟨V, H.forget (fun j B hj => ?_) (fun j T hj => ?_), Vu.Le.refl V w, rfl⟩
    · rw [lk_cons] at hj
      split at hj
      · rename_i e1; subst e1; rw [hi]; rw [← hj]; rfl
      · exact hj
    · cases hj
  | succ k ih =>
    intro hk
    obtain ⟨V', H1, L1, hn1⟩ := ih (by omega)
    have hl : (rowCells V.nx (List.replicate k [])).length = k := by rw [rowCells_len, List.length_replicate]
    obtain ⟨H2, L2⟩ := H1.adoptC (i := i) (off := k) (T := T) 3 1 (by rw [lk_cons, if_pos rfl]) (by rw [List.getElem?_append_right (by omega), hl, Nat.sub_self, List.getElem?_replicate, if_pos (by omega)])
    refine ⟨_, H2.forget (fun j B hj => ?_) (fun j T' hj => ?_), L1.trans L2, ?_⟩
    · rw [lk_cons] at hj ⊢
      split at hj
      · rename_i e1
        rw [if_pos e1, ← hj]
        congr 2
        rw [rowCells_rep, List.set_append_right _ _ (by omega), hl, Nat.sub_self, show n - k = (n - (k + 1)) + 1 by omega, List.replicate_succ, List.set_cons_zero, hn1, Nat.mod_eq_of_lt (by omega)]
        simp
      · rename_i e1
        rw [if_neg e1, lk_cons, if_neg e1]; exact hj
    · rw [rowToks_rep _ _ (by omega), lk_app] at hj
      rw [lk_cons, hn1]
      split at hj
      · rename_i x hx
        have : j < V.nx + k := by
          obtain ⟨q, hq, e1⟩ := List.mem_map.1 (lk_memF hx)
          have hq2 := List.mem_range.1 hq
          rw [List.length_replicate, Nat.min_eq_left (by omega)] at hq2
          have e2 := (Prod.mk.inj e1).1
          rw [Nat.mod_eq_of_lt (by omega)] at e2
          omega
        rw [if_neg (by omega)]
        rw [← hj]; exact hx
      · rw [lk_cons] at hj
        split at hj
        · rename_i e1
          rw [Nat.mod_eq_of_lt (by omega)] at e1
          rw [if_pos e1]; exact hj
        · cases hj
    · show max V'.nx (V'.nx + 1) = _
      omega
section
variable {E : Env} {st : St} {dd : Option Tmp} {ty : TypeId} {pos : String} {af : Array Edge} {g : Option (Nat × Bool)}
theorem zeroRow_nil (n : Nat) : zeroRow [.slice none 0 0] n = List.replicate n nilC := by
  apply List.ext_getElem?
  intro k
  simp only [zeroRow, List.getElem?_map, List.getElem?_replicate, List.length_singleton, Nat.mul_one]
  by_cases hk : k < n
  · rw [List.getElem?_range hk, if_pos hk]
    simp [Nat.mod_one]
  · rw [List.getElem?_eq_none (by simpa using hk), if_neg hk]; rfl
theorem OpOK.makeRows {t e by_ : Nat} {o1 o2 : Operand} {m : Int} (ht : tySlice E.P t = some (e, 1)) (hze : tyZero E.P e = some [.slice none 0 0]) (hel : tyElem E.P e = some (1, by_)) (hb : Nat.ble by_ 1000000 = true)
    (h1 : ev st.tm o1 = some (TI m)) (h2 : ev st.tm o2 = some (TI m)) (hm : (cond (decide (0 ≤ m)) (Nat.ble m.toNat 1000) false) = true) :
    OpOK E ⟨dd, .makeSlice t o1 o2, ty, pos, af, g⟩ st (.v (.one (.osl st.nx 0 m.toNat m.toNat))) ⟨(st.nx, .cells e (rowCells (st.nx + 1) (List.replicate m.toNat []))) :: st.hp, rowToks (st.nx + 1) (List.replicate m.toNat []), st.nx + 1001⟩ := by
  have h0 : 0 ≤ m := of_decide_eq_true (cond_left hm)
  have hn : m.toNat ≤ 1000 := Nat.le_of_ble_eq_true (cond_right hm)
  have hb' := Nat.le_of_ble_eq_true hb
  have hmm : (m.toNat : Int) = m := Int.toNat_of_nonneg h0
  have hbb : by_ * m.toNat ≤ 1000000 * 1000 := Nat.mul_le_mul hb' hn
  have ok := OpOK.makeSlice (E := E) (st := st) (dd := dd) (ty := ty) (pos := pos) (af := af) (g := g) (l := m.toNat) (c := m.toNat) ht hze rfl rfl hel (by rw [hmm]; exact h1) (by rw [hmm]; exact h2) (Nat.le_refl _) (by omega) (by omega)
  rw [zeroRow_nil] at ok
  intro V a w hr ro n K Q hK
  refine ok V a w hr ro n K Q (fun V' w' v H hnx L hx => ?_)
  obtain ⟨V2, H2, L2, hn2⟩ := H.adoptRows (i := st.nx) (T := e) m.toNat hn (by rw [lk_cons, if_pos rfl]) m.toNat (Nat.le_refl _)
  rw [Nat.sub_self, List.replicate_zero, List.append_nil] at H2
  rw [hnx] at H2 hn2
  dsimp only at H2 hn2
  obtain ⟨H3, L3⟩ := H2.skip (st.nx + 1001) (by rw [hn2]; omega)
  refine hK _ w' v (H3.forget (fun j B hj => ?_) (fun j T hj => hj)) rfl (L.trans (L2.trans L3)) (hx.mono (L2.trans L3))
  rw [lk_cons] at hj ⊢
  split at hj
  · rename_i e1; rw [if_pos e1]; exact hj
  · rename_i e1; rw [if_neg e1, lk_cons, if_neg e1]; exact hj
end
theorem tkLe.of {tk : List (Nat × Option Tok)} : ∀ {r : List (Nat × Option Tok)}, (∀ p ∈ r, ∀ T, p.2 = some T → lk tk p.1 = some (some T)) → tkLe tk r
  | [], _ => trivial
  | (t, y) :: r, h => ⟨fun T e => h (t, y) List.mem_cons_self T e, tkLe.of fun p hp => h p (List.mem_cons_of_mem _ hp)⟩
theorem kRow {base : Nat} {es : List (List Int)} : tkLe (rowToks base es) (rowToks base es) := tkLe.of fun p hp T e => by
  obtain ⟨k, hk, rfl⟩ := List.mem_map.1 hp
  have hk' := List.mem_range.1 hk
  cases e
  refine lk_rangeMap (fun a => base + a % 1000) (fun a => (some ⟨3, 1, (Enc.encL (es.getD a [])).length, []⟩ : Option Tok)) (List.range (min es.length 1000)) k hk (fun a ha e => ?_)
  have := List.mem_range.1 ha
  rw [Nat.mod_eq_of_lt (by omega), Nat.mod_eq_of_lt (by omega)] at e
  omega
theorem bRw {m i : Nat} {T : TypeId} {base : Nat} {es : List (List Int)} {r : List (Nat × HB)} (h : Nat.blt i m = true) (hb : Nat.ble (base + 1000) m = true) (l : hpBelow m r) : hpBelow m ((i, .cells T (rowCells base es)) :: r) := ⟨blt_t h, rowCells_below base m es hb, l⟩
theorem rowsCLs (base : Nat) (es : List (List Int)) : CLs (rowCells base es) (flatE es) := by
  have : ∀ (l : List Nat), CLs (l.map (rowCell base es)) (l.map fun k => .d (.sl 1 (Enc.encL (es.getD k [])))) := by
    intro l
    induction l with
    | nil => exact .nil
    | cons x l ih => exact .cons (.sub (.app _ _ _)) ih
  have h1 := this (List.range es.length)
  have e : flatE es = (List.range es.length).map fun k => CA.d (.sl 1 (Enc.encL (es.getD k []))) := by
    apply List.ext_getElem?
    intro k
    unfold flatE
    rw [Enc.map]
    have hsz : ∀ l : List (List Int), (l.map Enc.enc).flatten = l.map fun r => C.sl 1 (Enc.encL r) := by
      intro l
      induction l with
      | nil => rfl
      | cons x l ih => rw [List.map_cons, List.flatten_cons, ih]; rfl
    rw [hsz, List.map_map, List.getElem?_map, List.getElem?_map]
    by_cases hk : k < es.length
    · rw [List.getElem?_range hk, List.getElem?_eq_getElem hk]
      simp [List.getD_eq_getElem?_getD, List.getElem?_eq_getElem hk]
    · rw [List.getElem?_eq_none (by omega), List.getElem?_eq_none (by simpa using hk)]; rfl
  rw [e]; exact h1
theorem XQ.rows {E : Env} {Q : Exit → Act → World → Prop} {st : St} {e : Exit} {i base : Nat} {T : TypeId} {es : List (List Int)} (hi : lk st.hp i = some (.cells T (rowCells base es)))
    (k : XQ E Q e ⟨st.tm, [(i, .cells T (flatE es))], [], st.nx, st.nt, st.df⟩) : XQ E Q e st := fun V a w hr =>
  k V a w ⟨hr.h.forgetLe (hC hi (rowsCLs base es) hZ) kZ, hr.nx, hr.nt, hr.df, hr.tm⟩
section
variable {E : Env} {st : St} {dd : Option Tmp} {ty : TypeId} {pos : String} {af : Array Edge} {g : Option (Nat × Bool)}
theorem RO.indexRow {t e i n base : Nat} {T : TypeId} {x y : Operand} {m : Int} {es : List (List Int)} {row : List Int} (ht : tySlice E.P t = some (e, 1)) (hx : ev st.tm x = some (.v (.one (.osl i 0 n n)))) (hy : ev st.tm y = some (TI m)) (hv : idx es m = some row) (hn : Nat.beq es.length n = true) :
    RO E ⟨dd, .indexAddr t x y, ty, pos, af, g⟩ st (.v (.one (.ptr i m.toNat))) := by
  obtain ⟨k, rfl, hk⟩ := idxS hv
  have hl : es.length = n := Nat.eq_of_beq_eq_true hn
  have := RO.indexOsl (E := E) (st := st) (d := dd) (ty := ty) (pos := pos) (af := af) (g := g) (k := k) ht hx hy rfl (by rw [← hl]; exact (List.getElem?_eq_some_iff.1 hk).1)
  rw [Nat.zero_add, Nat.mul_one] at this; exact this
theorem RO.loadRow {t i base : Nat} {T : TypeId} {x : Operand} {m : Int} {es : List (List Int)} {row : List Int} (ht : tyAgg E.P t = some (false, 1)) (hx : ev st.tm x = some (.v (.one (.ptr i m.toNat)))) (hi : lk st.hp i = some (.cells T (rowCells base es))) (hv : idx es m = some row) :
    RO E ⟨dd, .load t x, ty, pos, af, g⟩ st (.v (.one (.app (base + m.toNat % 1000) 1 (Enc.encL row)))) := by
  obtain ⟨k, rfl, hk⟩ := idxS hv
  exact RO.loadOwn ht hx hi (rowCells_get hk)
theorem rowTok {base : Nat} {es : List (List Int)} {m : Int} {row : List Int} (hv : idx es m = some row) (hl : Nat.ble es.length 1000 = true) : lk (rowToks base es) (base + m.toNat % 1000) = some (some ⟨3, 1, (Enc.encL row).length, []⟩) := by
  obtain ⟨k, rfl, hk⟩ := idxS hv
  exact rowToks_get hk (Nat.le_of_ble_eq_true hl)
theorem OpOK.storeRow {t i base : Nat} {T : TypeId} {o1 o2 : Operand} {m : Int} {es : List (List Int)} {row row2 : List Int} (ht : tyAgg E.P t = some (false, 1)) (h1 : ev st.tm o1 = some (.v (.one (.ptr i m.toNat)))) (h2 : ev st.tm o2 = some (.v (.one (.app (base + m.toNat % 1000) 1 (Enc.encL row2)))))
    (hi : lk st.hp i = some (.cells T (rowCells base es))) (hv : idx es m = some row) (hl : Nat.ble es.length 1000 = true) (htk : st.tk = (base + m.toNat % 1000, some ⟨3, 1, (Enc.encL row2).length, []⟩) :: dropK (base + m.toNat % 1000) (rowToks base es)) (hdd : dd = none) :
    OpOK E ⟨dd, .store t o1 o2, ty, pos, af, g⟩ st (.tup []) ⟨(i, .cells T (rowCells base (es.set m.toNat row2))) :: dropK i st.hp, rowToks base (es.set m.toNat row2), st.nx⟩ := by
  obtain ⟨k, rfl, hk⟩ := idxS hv
  have hlt := (List.getElem?_eq_some_iff.1 hk).1
  rw [Int.toNat_natCast] at h1 h2 htk
  rw [Int.toNat_natCast]
  have hl' := Nat.le_of_ble_eq_true hl
  have ok := OpOK.store (E := E) (st := st) (dd := dd) (ty := ty) (pos := pos) (af := af) (g := g) ht h1 h2 hi rfl (by rw [rowCells_len]; exact hlt) hdd
  intro V a w hr ro n K Q hK
  refine ok V a w hr ro n K Q (fun V' w' v H hnx L hx => ?_)
  refine hK V' w' v (H.forget (fun j B hj => ?_) (fun j T' hj => ?_)) hnx L hx
  · rw [lk_cons] at hj ⊢
    split at hj
    · rename_i e1
      rw [if_pos e1, ← hj]
      congr 2
      exact (rowCells_set hlt).symm ▸ rfl
    · rename_i e1; rw [if_neg e1]; exact hj
  · rw [htk, lk_put, lk_cons]
    have hlen : (es.set k row2).length = es.length := by simp
    obtain ⟨q, hq, e1⟩ := List.mem_map.1 (lk_memF hj)
    have hq2 := List.mem_range.1 hq
    rw [hlen] at hq2
    have e2 := (Prod.mk.inj e1).1
    have e3 := (Prod.mk.inj e1).2
    have hkm : k % 1000 = k := Nat.mod_eq_of_lt (by omega)
    rw [Nat.mod_eq_of_lt (by omega)] at e2
    rw [hkm]
    rw [← e3, ← e2]
    by_cases hqk : q = k
    · subst hqk
      rw [if_pos rfl]
      congr 2
      show _ = Tok.mk 3 1 (Enc.encL ((es.set q row2).getD q [])).length []
      rw [List.getD_eq_getElem?_getD, List.getElem?_set, if_pos rfl, if_pos hlt]; rfl
    · rw [if_neg (by omega)]
      have h5 : es[q]? = some (es.getD q []) := by
        rw [List.getD_eq_getElem?_getD, List.getElem?_eq_getElem (by omega)]; rfl
      have h6 := rowToks_get (base := base) h5 hl'
      rw [Nat.mod_eq_of_lt (by omega)] at h6
      rw [h6]
      congr 2
      show _ = Tok.mk 3 1 (Enc.encL ((es.set k row2).getD q [])).length []
      rw [List.getD_eq_getElem?_getD, List.getD_eq_getElem?_getD, List.getElem?_set, if_neg (fun e => hqk e.symm)]
end
end Go.Proofs.Ytijcchddnnnmdaa
namespace Go.Proofs.Ytijcchddnnnmdaa
open Go.RowKit Go.Shelf
set_option linter.unusedSimpArgs false
set_option linter.unusedVariables false
theorem en_36 : Enters Try.prog 36 := enters_of Try.func36 (by kernel_rfl) rfl
def m36_l0 (x4 : List Int) (a0 : List (List Int)) (s1 : Int × (List (List Int))) (s2 : Int × (List (List Int))) : Option (LO (Int × (List (List Int))) (((List (List Int))))) :=
  cond (decide (s2.1 < (x4.length : Int)))
    (Option.bind (idx x4 s2.1) fun (x7 : Int) =>
  Option.bind (idx s2.2 x7) fun (x8 : List Int) =>
  guardO (Nat.beq s2.2.length ((a0.length : Int).toNat))
  (guardO (Nat.ble s2.2.length 1000)
  (guardO (Nat.ble (x8.length + ([s1.1]).length) 1000000000)
  (Option.bind (idx s2.2 x7) fun (x12 : List Int) =>
  guardO (Nat.beq s2.2.length ((a0.length : Int).toNat))
  (guardO (Nat.ble s2.2.length 1000)
  (some (.next ((w64 (s2.1 + 1)), (s2.2.set x7.toNat (x8 ++ ([s1.1])))))))))))
    (some (.done s2.2))
def m36_l1 (a0 : List (List Int)) (s1 : Int × (List (List Int))) : Option (LO (Int × (List (List Int))) (((List (List Int))))) :=
  cond (decide (s1.1 < (a0.length : Int)))
    (Option.bind (idx a0 s1.1) fun (x4 : List Int) =>
  Option.bind (loopN (m36_l0 x4 a0 s1) FUEL (0, s1.2)) (fun (o5 : (List (List Int))) => some (.next ((w64 (s1.1 + 1)), o5))))
    (some (.done s1.2))
def m36 (a0 : List (List Int)) : Option ((List (List Int))) :=
  guardO (cond (decide (0 ≤ (a0.length : Int))) (Nat.ble (a0.length : Int).toNat 1000) false)
  (Option.bind (loopN (m36_l1 a0) FUEL (0, (List.replicate (a0.length : Int).toNat ([] : List Int)))) (fun (o2 : (List (List Int))) => guardO (Nat.beq o2.length ((a0.length : Int).toNat))
  (some o2)))
set_option maxRecDepth 100000 in
set_option maxHeartbeats 2000000 in
theorem m36_ok (a0 : List (List Int)) (r : (List (List Int))) (h0 : m36 a0 = some r) : Fun Try.prog 36 [.one (dS a0)] (resOf [.one (dS r)]) := by
  unfold m36 at h0
  refine Fun.of_bodyM 9 37 Try.func36 rfl en_36 rfl (lb rfl) (fun S w => ?_)
  simp only [entry]
  refine XC.seq <| XC.region <| rA rfl rfl rfl <| XL.nil <| XQ.seq <| XC.seq <| XC.region <| rM rfl rfl rfl <| rR rfl rfl rfl (RO.lenE (α := List Int) sl_57 rfl (.d _)) ?_
  refine guardK h0 (fun g1 h0 => ?_)
  refine XL.put rfl rfl (lb rfl) (OpOK.makeRows sl_57 z_54 el_54 rfl rfl rfl g1) <| rA rfl rfl rfl <| XL.nil <| XQ.seq <| XC.seq <| XC.seq <| XC.region <| rM rfl rfl rfl <| rR rfl rfl rfl (RO.lenE (α := List Int) sl_57 rfl (.d _)) <| rM rfl rfl rfl <| XL.nil <| XQ.seq <| XC.block ?_
  refine XC.joinX 0 (fun (o2 : (List (List Int))) => ⟨[(3, .v (.one (.osl 0 0 ((a0.length : Int).toNat) ((a0.length : Int).toNat))))], [(0, .cells 54 (rowCells 1 o2))], (rowToks 1 o2), 1001, 37, []⟩) (fun (o2 : (List (List Int))) => (guardO (Nat.beq o2.length ((a0.length : Int).toNat))
    (some o2)) = some r) ?_ ?_
  ·
   refine bindK h0 (fun o3 hl1 h0 => ?_)
   refine XC.loopM (m36_l1 a0) (fun s1 => ⟨[(3, .v (.one (.osl 0 0 ((a0.length : Int).toNat) ((a0.length : Int).toNat)))), (11, .v (.one (dS a0))), (12, .v (.one (dI (a0.length : Int)))), (13, .v (.one (dI s1.1)))], [(0, .cells 54 (rowCells 1 s1.2))], (rowToks 1 s1.2), 1001, 37, []⟩) (0, (List.replicate (a0.length : Int).toNat ([] : List Int))) o3 (stle (tR rfl (tR rfl (tR rfl (tR rfl tZ)))) (hR rfl hZ) kRow rfl (Nat.zero_le _) rfl rfl rfl (bRw rfl rfl bZ) (rowToks_all _ _ _ rfl) rfl) hl1 (fun s1 n1 oo1 h1 ho1 => ?_)
   unfold m36_l1 at h1
   refine XC.seq <| XC.region <| rR rfl rfl rfl (RO.binInt rfl rfl rfl) <| XL.nil <| XQ.seq <| XC.seq ?_
   refine XC.cond (b := (decide (s1.1 < (a0.length : Int)))) rfl (fun c4 => ?_) (fun c4 => ?_)
   ·
    replace h1 := condT c4 h1
    refine XC.skip <| XQ.seq <| XC.seq <| XC.block <| XC.seq <| XC.region <| rM rfl rfl rfl ?_
    refine bindK h1 (fun x5 hx5 h1 => ?_)
    refine rR rfl rfl rfl (RO.indexE (α := List Int) sl_57 rfl (.d _) rfl hx5) <| rR rfl rfl rfl (RO.loadPel ag_54 rfl rfl) <| rA rfl rfl rfl <| rA rfl rfl rfl <| XL.nil <| XQ.seq <| XC.seq <| XC.region <| rM rfl rfl rfl <| rR rfl rfl rfl (RO.lenE (α := Int) sl_54 rfl (.d _)) <| rM rfl rfl rfl <| XL.nil <| XQ.seq <| XC.block ?_
    refine XC.joinX 2 (fun (o6 : (List (List Int))) => ⟨[(3, .v (.one (.osl 0 0 ((a0.length : Int).toNat) ((a0.length : Int).toNat)))), (11, .v (.one (dS a0))), (12, .v (.one (dI (a0.length : Int)))), (13, .v (.one (dI s1.1)))], [(0, .cells 54 (rowCells 1 o6))], (rowToks 1 o6), 1001, 37, []⟩) (fun (o6 : (List (List Int))) => (some (.next ((w64 (s1.1 + 1)), o6))) = some oo1) ?_ ?_
    ·
     refine bindK h1 (fun o7 hl2 h1 => ?_)
     refine XC.loopM (m36_l0 x5 a0 s1) (fun s2 => ⟨[(3, .v (.one (.osl 0 0 ((a0.length : Int).toNat) ((a0.length : Int).toNat)))), (4, .v (.one (dI s1.1))), (11, .v (.one (dS a0))), (12, .v (.one (dI (a0.length : Int)))), (13, .v (.one (dI s1.1))), (18, .v (.one (dS x5))), (19, .v (.one (dI (x5.length : Int)))), (20, .v (.one (dI s2.1)))], [(0, .cells 54 (rowCells 1 s2.2))], (rowToks 1 s2.2), 1001, 37, []⟩) (0, s1.2) o7 (stle (tR rfl (tR rfl (tR rfl (tR rfl (tR rfl (tR rfl (tR rfl (tR rfl tZ)))))))) (hR rfl hZ) kRow rfl (Nat.zero_le _) rfl rfl rfl (bRw rfl rfl bZ) (rowToks_all _ _ _ rfl) rfl) hl2 (fun s2 n2 oo2 h2 ho2 => ?_)
     unfold m36_l0 at h2
     refine XC.seq <| XC.region <| rR rfl rfl rfl (RO.binInt rfl rfl rfl) <| XL.nil <| XQ.seq <| XC.seq ?_
     refine XC.cond (b := (decide (s2.1 < (x5.length : Int)))) rfl (fun c8 => ?_) (fun c8 => ?_)
     ·
      replace h2 := condT c8 h2
      refine XC.skip <| XQ.seq <| XC.seq <| XC.block <| XC.seq <| XC.region ?_
      refine bindK h2 (fun x9 hx9 h2 => ?_)
      refine rR rfl rfl rfl (RO.indexE (α := Int) sl_54 rfl (.d _) rfl hx9) <| rR rfl rfl rfl (RO.loadPel ag_3 rfl rfl) <| rA rfl rfl rfl <| XL.nil <| XQ.seq <| XC.region <| rM rfl rfl rfl <| rM rfl rfl rfl <| rM rfl rfl rfl <| rM rfl rfl rfl ?_
      refine bindK h2 (fun x10 hx10 h2 => ?_)
      refine guardK h2 (fun g11 h2 => ?_)
      refine rR rfl rfl rfl (RO.indexRow (base := 1) (T := 54) sl_57 rfl rfl hx10 g11) <| rR rfl rfl rfl (RO.loadRow ag_54 rfl rfl hx10) <| rM rfl rfl rfl <| XL.put rfl rfl (lb rfl) (OpOK.data1E (α := Int) (s1.1) sl_54 z_3 rfl rfl (lb rfl) rfl rfl (.cons (.d _) .nil) rfl) ?_
      refine guardK h2 (fun g12 h2 => ?_)
      refine guardK h2 (fun g13 h2 => ?_)
      refine XL.put rfl rfl (lb rfl) (OpOK.appendE (α := Int) sl_54 el_3 rfl rfl (rowTok hx10 g12) rfl rfl (.d _) g13) ?_
      refine bindK h2 (fun x14 hx14 h2 => ?_)
      refine guardK h2 (fun g15 h2 => ?_)
      refine rR rfl rfl rfl (RO.indexRow (base := 1) (T := 54) sl_57 rfl rfl hx14 g15) ?_
      refine guardK h2 (fun g16 h2 => ?_)
      refine XL.eff rfl rfl (OpOK.storeRow ag_54 rfl rfl rfl hx14 g16 rfl rfl) <| XL.nil <| XQ.inBlock <| XQ.seq <| XC.region <| rR rfl rfl rfl (RO.binInt rfl rfl rfl) <| rM rfl rfl rfl <| XL.nil ?_
      have e_ := Option.some.inj h2
      subst e_
      refine XQ.nextM ((w64 (s2.1 + 1)), (s2.2.set x9.toNat (x10 ++ ([s1.1])))) (stle (tR rfl (tR rfl (tR rfl (tR rfl (tR rfl (tR rfl (tR rfl (tR rfl tZ)))))))) (hR rfl hZ) kRow rfl (Nat.zero_le _) rfl rfl rfl (bRw rfl rfl bZ) (rowToks_all _ _ _ rfl) rfl) ho2
     ·
      replace h2 := condF c8 h2
      refine XC.exit <| XQ.thenE <| XQ.thenE ?_
      have e_ := Option.some.inj h2
      subst e_
      have e_ : _ = _ := ho2
      subst e_
      exact XQ.joinX s2.2 (stle (tR rfl (tR rfl (tR rfl (tR rfl tZ)))) (hR rfl hZ) kRow rfl (Nat.zero_le _) rfl rfl rfl (bRw rfl rfl bZ) (rowToks_all _ _ _ rfl) rfl) h1
    ·
     intro o6 h1
     refine XQ.blockX <| XQ.inBlock <| XQ.seq <| XC.region <| rR rfl rfl rfl (RO.binInt rfl rfl rfl) <| rM rfl rfl rfl <| XL.nil ?_
     have e_ := Option.some.inj h1
     subst e_
     refine XQ.nextM ((w64 (s1.1 + 1)), o6) (stle (tR rfl (tR rfl (tR rfl (tR rfl tZ)))) (hR rfl hZ) kRow rfl (Nat.zero_le _) rfl rfl rfl (bRw rfl rfl bZ) (rowToks_all _ _ _ rfl) rfl) ho1
   ·
    replace h1 := condF c4 h1
    refine XC.exit <| XQ.thenE <| XQ.thenE ?_
    have e_ := Option.some.inj h1
    subst e_
    have e_ : _ = _ := ho1
    subst e_
    exact XQ.joinX s1.2 (stle (tR rfl tZ) (hR rfl hZ) kRow rfl (Nat.zero_le _) rfl rfl rfl (bRw rfl rfl bZ) (rowToks_all _ _ _ rfl) rfl) h0
  ·
   intro o2 h0
   refine XQ.blockX <| XQ.seq <| XC.seq <| XC.region <| rM rfl rfl rfl <| rA rfl rfl rfl <| XL.nil <| XQ.seq <| XC.ret ?_
   refine guardK h0 (fun g17 h0 => ?_)
   have e_ := Option.some.inj h0
   subst e_
   refine XQ.rows (i := 0) rfl <| XQ.freezeT (α := List Int) (t := 2) rfl rfl g17 ?_
   exact XQ.retF (fun _ _ h => h) rfl (RAs.tmp rfl .nil) (.cons (.one (.d _)) .nil)
end Go.Proofs.Ytijcchddnnnmdaa
namespace Go.Proofs.Ytijcchddnnnmdaa
open Go.RowKit Go.Shelf
set_option linter.unusedSimpArgs false
set_option linter.unusedVariables false
theorem ag_106 : tyAgg Try.prog 106 = some (false, 1) := by kernel_rfl
theorem z_106 : tyZero Try.prog 106 = some [.nilFunc] := by kernel_rfl
theorem en_12 : Enters Try.prog 12 := enters_of Try.func12 (by kernel_rfl) rfl
theorem en_35 : Enters Try.prog 35 := enters_of Try.func35 (by kernel_rfl) rfl
theorem en_56 : Enters Try.prog 56 := enters_of Try.func56 (by kernel_rfl) rfl
def m56f12_l0 (x6 : List Int) (rc : Int × Nat × (List Bool) × (List (List Int)) → Option ((List Bool))) (a1 : Nat) (a3 : List (List Int)) (s1 : Int × (List Bool)) : Option (LO (Int × (List Bool)) (((List Bool)))) :=
  cond (decide (s1.1 < (x6.length : Int)))
    (Option.bind (idx x6 s1.1) fun (x9 : Int) =>
  Option.bind (rc (x9, a1, s1.2, a3)) fun (x10 : (List Bool)) =>
  some (.next ((w64 (s1.1 + 1)), x10)))
    (some (.done s1.2))
def m56f12s (rc : Int × Nat × (List Bool) × (List (List Int)) → Option ((List Bool))) (a0 : Int) (a1 : Nat) (a2 : List Bool) (a3 : List (List Int)) : Option ((List Bool)) :=
  Option.bind (idx a2 a0) fun (x1 : Bool) =>
  guardO (Nat.beq a2.length a1)
  (cond x1
    (some a2)
    (Option.bind (idx a2 a0) fun (x4 : Bool) =>
  guardO (Nat.beq a2.length a1)
  (Option.bind (idx a3 a0) fun (x6 : List Int) =>
  Option.bind (loopN (m56f12_l0 x6 rc a1 a3) FUEL (0, (a2.set a0.toNat true))) (fun (o7 : (List Bool)) => some o7))))
def m56f12F (rc : Int × Nat × (List Bool) × (List (List Int)) → Option ((List Bool))) (u : Int × Nat × (List Bool) × (List (List Int))) : Option ((List Bool)) := m56f12s rc u.1 u.2.1 u.2.2.1 u.2.2.2
def m56f12 (a0 : Int) (a1 : Nat) (a2 : List Bool) (a3 : List (List Int)) : Option ((List Bool)) := recO m56f12F FUEL (a0, a1, a2, a3)
set_option maxRecDepth 100000 in
set_option maxHeartbeats 2000000 in
theorem m56f12s_ok (rc : Int × Nat × (List Bool) × (List (List Int)) → Option ((List Bool))) (H : ∀ (a0 : Int) (a1 : Nat) (a2 : List Bool) (a3 : List (List Int)) (r : (List Bool)), rc (a0, a1, a2, a3) = some r → CallM Try.prog 56 [.one (dI a0), .one (.ptr 0 0), .one (.ptr 2 0), .one (.ptr 3 0)] ⟨[(0, .cells 75 [.osl 1 0 a1 a1]), (1, .cells 4 (flatE a2)), (2, .cells 57 [dS a3]), (3, .cells 106 [.fn 56 [(0, 0), (2, 0), (3, 0)]])], [], 4⟩ (resOf []) ⟨[(0, .cells 75 [.osl 1 0 a1 a1]), (1, .cells 4 (flatE r)), (2, .cells 57 [dS a3]), (3, .cells 106 [.fn 56 [(0, 0), (2, 0), (3, 0)]])], [], 4⟩) (a0 : Int) (a1 : Nat) (a2 : List Bool) (a3 : List (List Int)) (r : (List Bool)) (h0 : m56f12s rc a0 a1 a2 a3 = some r) : CallM Try.prog 56 [.one (dI a0), .one (.ptr 0 0), .one (.ptr 2 0), .one (.ptr 3 0)] ⟨[(0, .cells 75 [.osl 1 0 a1 a1]), (1, .cells 4 (flatE a2)), (2, .cells 57 [dS a3]), (3, .cells 106 [.fn 56 [(0, 0), (2, 0), (3, 0)]])], [], 4⟩ (resOf []) ⟨[(0, .cells 75 [.osl 1 0 a1 a1]), (1, .cells 4 (flatE r)), (2, .cells 57 [dS a3]), (3, .cells 106 [.fn 56 [(0, 0), (2, 0), (3, 0)]])], [], 4⟩ := by
  unfold m56f12s at h0
  refine CallM.of_bodyD ⟨[], [(0, .cells 75 [.osl 1 0 a1 a1]), (1, .cells 4 (flatE r)), (2, .cells 57 [dS a3]), (3, .cells 106 [.fn 56 [(0, 0), (2, 0), (3, 0)]])], [], 4, 27, []⟩ rfl rfl en_56 (lb rfl) rfl .nil (fun w0 M V0 Q hv0 hQ0 => ?_)
  simp only [entry]
  refine XC.seq <| XC.seq <| XC.region <| rR rfl rfl rfl (RO.loadOwn ag_75 rfl rfl rfl) <| rM rfl rfl rfl ?_
  refine bindK h0 (fun x1 hx1 h0 => ?_)
  refine guardK h0 (fun g2 h0 => ?_)
  refine rR rfl rfl rfl (RO.indexO (α := Bool) sl_75 rfl rfl hx1 g2) <| rR rfl rfl rfl (RO.loadOF (α := Bool) (m := a0) (f := 0) ag_4 rfl rfl hx1 rfl) <| XL.nil <| XQ.seq ?_
  refine XC.cond (b := x1) rfl (fun c3 => ?_) (fun c3 => ?_)
  ·
   replace h0 := condT c3 h0
   refine XC.ret ?_
   have e_ := Option.some.inj h0
   subst e_
   exact hQ0 _ _ _ (.inr rfl) rfl (stle tZ (hR rfl (hR rfl (hR rfl (hR rfl hZ)))) kZ rfl (Nat.le_trans hv0 (lb rfl)) rfl rfl rfl (bB rfl rfl (bF rfl (bB rfl rfl (bB rfl rfl bZ)))) rfl rfl)
  ·
   replace h0 := condF c3 h0
   refine XC.skip <| XQ.seq <| XC.seq <| XC.region <| rR rfl rfl rfl (RO.loadOwn ag_75 rfl rfl rfl) <| rM rfl rfl rfl ?_
   refine bindK h0 (fun x4 hx4 h0 => ?_)
   refine guardK h0 (fun g5 h0 => ?_)
   refine rR rfl rfl rfl (RO.indexO (α := Bool) sl_75 rfl rfl hx4 g5) <| XL.eff rfl rfl (OpOK.storeOE (α := Bool) (y' := .one (dB true)) (v := true) ag_4 rfl rfl (.one (.d _)) rfl rfl hx4 rfl) <| XL.nil <| XQ.seq <| XC.seq <| XC.region <| rR rfl rfl rfl (RO.loadOwn ag_57 rfl rfl rfl) <| rM rfl rfl rfl ?_
   refine bindK h0 (fun x6 hx6 h0 => ?_)
   refine rR rfl rfl rfl (RO.indexE (α := List Int) sl_57 rfl (.d _) rfl hx6) <| rR rfl rfl rfl (RO.loadPel ag_54 rfl rfl) <| rR rfl rfl rfl (RO.lenE (α := Int) sl_54 rfl (.d _)) <| rM rfl rfl rfl <| XL.nil <| XQ.seq <| XC.block ?_
   refine XC.joinX 0 (fun (o7 : (List Bool)) => ⟨[], [(0, .cells 75 [.osl 1 0 a1 a1]), (1, .cells 4 (flatE o7)), (2, .cells 57 [dS a3]), (3, .cells 106 [.fn 56 [(0, 0), (2, 0), (3, 0)]])], [], 4, 27, []⟩) (fun (o7 : (List Bool)) => (some o7) = some r) ?_ ?_
   ·
    refine bindK h0 (fun o8 hl1 h0 => ?_)
    refine XC.loopM (m56f12_l0 x6 rc a1 a3) (fun s1 => ⟨[(3, .v (.one (.ptr 3 0))), (17, .v (.one (dS x6))), (18, .v (.one (dI (x6.length : Int)))), (19, .v (.one (dI s1.1)))], [(0, .cells 75 [.osl 1 0 a1 a1]), (1, .cells 4 (flatE s1.2)), (2, .cells 57 [dS a3]), (3, .cells 106 [.fn 56 [(0, 0), (2, 0), (3, 0)]])], [], 4, 27, []⟩) (0, (a2.set a0.toNat true)) o8 (stle (tR rfl (tR rfl (tR rfl (tR rfl tZ)))) (hR rfl (hR rfl (hR rfl (hR rfl hZ)))) kZ rfl (Nat.le_trans hv0 (lb rfl)) rfl rfl rfl (bB rfl rfl (bF rfl (bB rfl rfl (bB rfl rfl bZ)))) rfl rfl) hl1 (fun s1 n1 oo1 h1 ho1 => ?_)
    unfold m56f12_l0 at h1
    refine XC.seq <| XC.region <| rR rfl rfl rfl (RO.binInt rfl rfl rfl) <| XL.nil <| XQ.seq <| XC.seq ?_
    refine XC.cond (b := (decide (s1.1 < (x6.length : Int)))) rfl (fun c9 => ?_) (fun c9 => ?_)
    ·
     replace h1 := condT c9 h1
     refine XC.skip <| XQ.seq <| XC.seq <| XC.block <| XC.seq <| XC.region ?_
     refine bindK h1 (fun x10 hx10 h1 => ?_)
     refine rR rfl rfl rfl (RO.indexE (α := Int) sl_54 rfl (.d _) rfl hx10) <| rR rfl rfl rfl (RO.loadPel ag_3 rfl rfl) <| rA rfl rfl rfl <| XL.nil <| XQ.seq <| XC.region <| rR rfl rfl rfl (RO.loadOwn ag_106 rfl rfl rfl) <| rM rfl rfl rfl ?_
     refine bindK h1 (fun x11 hx11 h1 => ?_)
     refine XL.put rfl rfl (lb rfl) (OpOK.callG (hp1' := [(0, .cells 75 [.osl 1 0 a1 a1]), (1, .cells 4 (flatE x11)), (2, .cells 57 [dS a3]), (3, .cells 106 [.fn 56 [(0, 0), (2, 0), (3, 0)]])]) (tk1' := []) (hpF := []) (tkF := []) (res2 := resOf []) (nx2 := 4) [0, 1, 2, 3] rfl rfl (H x10 a1 s1.2 a3 x11 hx11) rfl rfl (qB rfl rfl (qF rfl (qB rfl rfl (qB rfl rfl qZ)))) rfl rfl (gR rfl (gF rfl (gR rfl (gR rfl gZ)))) jZ hZ kZ rfl rfl rfl rfl rfl (bB rfl rfl (bF rfl (bB rfl rfl (bB rfl rfl bZ)))) rfl rfl rfl rfl) <| XL.nil <| XQ.inBlock <| XQ.seq <| XC.region <| rR rfl rfl rfl (RO.binInt rfl rfl rfl) <| rM rfl rfl rfl <| XL.nil ?_
     have e_ := Option.some.inj h1
     subst e_
     refine XQ.nextM ((w64 (s1.1 + 1)), x11) (stle (tR rfl (tR rfl (tR rfl (tR rfl tZ)))) (hR rfl (hR rfl (hR rfl (hR rfl hZ)))) kZ rfl (Nat.le_trans hv0 (lb rfl)) rfl rfl rfl (bB rfl rfl (bF rfl (bB rfl rfl (bB rfl rfl bZ)))) rfl rfl) ho1
    ·
     replace h1 := condF c9 h1
     refine XC.exit <| XQ.thenE <| XQ.thenE ?_
     have e_ := Option.some.inj h1
     subst e_
     have e_ : _ = _ := ho1
     subst e_
     exact XQ.joinX s1.2 (stle tZ (hR rfl (hR rfl (hR rfl (hR rfl hZ)))) kZ rfl (Nat.le_trans hv0 (lb rfl)) rfl rfl rfl (bB rfl rfl (bF rfl (bB rfl rfl (bB rfl rfl bZ)))) rfl rfl) h0
   ·
    intro o7 h0
    refine XQ.blockX ?_
    have e_ := Option.some.inj h0
    subst e_
    exact hQ0 _ _ _ (.inl rfl) rfl (stle tZ (hR rfl (hR rfl (hR rfl (hR rfl hZ)))) kZ rfl (Nat.le_trans hv0 (lb rfl)) rfl rfl rfl (bB rfl rfl (bF rfl (bB rfl rfl (bB rfl rfl bZ)))) rfl rfl)
theorem m56f12_all (n : Nat) (u : Int × Nat × (List Bool) × (List (List Int))) (r : (List Bool)) (h0 : recO m56f12F n u = some r) : CallM Try.prog 56 [.one (dI u.1), .one (.ptr 0 0), .one (.ptr 2 0), .one (.ptr 3 0)] ⟨[(0, .cells 75 [.osl 1 0 u.2.1 u.2.1]), (1, .cells 4 (flatE u.2.2.1)), (2, .cells 57 [dS u.2.2.2]), (3, .cells 106 [.fn 56 [(0, 0), (2, 0), (3, 0)]])], [], 4⟩ (resOf []) ⟨[(0, .cells 75 [.osl 1 0 u.2.1 u.2.1]), (1, .cells 4 (flatE r)), (2, .cells 57 [dS u.2.2.2]), (3, .cells 106 [.fn 56 [(0, 0), (2, 0), (3, 0)]])], [], 4⟩ :=
  recO_ind (C := fun u r => CallM Try.prog 56 [.one (dI u.1), .one (.ptr 0 0), .one (.ptr 2 0), .one (.ptr 3 0)] ⟨[(0, .cells 75 [.osl 1 0 u.2.1 u.2.1]), (1, .cells 4 (flatE u.2.2.1)), (2, .cells 57 [dS u.2.2.2]), (3, .cells 106 [.fn 56 [(0, 0), (2, 0), (3, 0)]])], [], 4⟩ (resOf []) ⟨[(0, .cells 75 [.osl 1 0 u.2.1 u.2.1]), (1, .cells 4 (flatE r)), (2, .cells 57 [dS u.2.2.2]), (3, .cells 106 [.fn 56 [(0, 0), (2, 0), (3, 0)]])], [], 4⟩) (fun rc H u r h => m56f12s_ok rc (fun a0 a1 a2 a3 r h => H (a0, a1, a2, a3) r h) u.1 u.2.1 u.2.2.1 u.2.2.2 r h) n u r h0
theorem m56f12_ok (a0 : Int) (a1 : Nat) (a2 : List Bool) (a3 : List (List Int)) (r : (List Bool)) (h0 : m56f12 a0 a1 a2 a3 = some r) : CallM Try.prog 56 [.one (dI a0), .one (.ptr 0 0), .one (.ptr 2 0), .one (.ptr 3 0)] ⟨[(0, .cells 75 [.osl 1 0 a1 a1]), (1, .cells 4 (flatE a2)), (2, .cells 57 [dS a3]), (3, .cells 106 [.fn 56 [(0, 0), (2, 0), (3, 0)]])], [], 4⟩ (resOf []) ⟨[(0, .cells 75 [.osl 1 0 a1 a1]), (1, .cells 4 (flatE r)), (2, .cells 57 [dS a3]), (3, .cells 106 [.fn 56 [(0, 0), (2, 0), (3, 0)]])], [], 4⟩ := m56f12_all FUEL (a0, a1, a2, a3) r h0
def m12_l0 (x9 : (List Bs)) (s2 : Int × (GMap Bs Int)) (s3 : Int × (GMap Bs Int)) : Option (LO (Int × (GMap Bs Int)) (((GMap Bs Int)) ⊕ (((List (List Int)) × (GMap Bs Int)) ⊕ Unit ⊕ Unit))) :=
  cond (decide (s3.1 < (x9.length : Int)))
    (Option.bind (idx x9 s3.1) fun (x12 : Bs) =>
  cond (gmHas s3.2 x12)
    (some (.done (.inr (.inr (.inl ())))))
    (some (.next ((w64 (s3.1 + 1)), (gmSet s3.2 x12 s2.1)))))
    (some (.done (.inl s3.2)))
def m12_l1 (a0 : List Dcl) (s2 : Int × (GMap Bs Int)) : Option (LO (Int × (GMap Bs Int)) (((GMap Bs Int)) ⊕ (((List (List Int)) × (GMap Bs Int)) ⊕ Unit ⊕ Unit))) :=
  cond (decide (s2.1 < (a0.length : Int)))
    (Option.bind (idx a0 s2.1) fun (x8 : Dcl) =>
  Option.bind (m37 x8) fun (x9 : (List Bs)) =>
  Option.bind (loopN (m12_l0 x9 s2) FUEL (0, s2.2)) (Sum.elim (fun (o10 : (GMap Bs Int)) => some (.next ((w64 (s2.1 + 1)), o10))) (fun o => some (.done (.inr o)))))
    (some (.done (.inl s2.2)))
def m12_l2 (x10 : (List Bs)) (o6 : (GMap Bs Int)) (s3 : (List Int) × Int) : Option (LO ((List Int) × Int) (((List Int)) ⊕ (((List (List Int)) × (GMap Bs Int)) ⊕ Unit ⊕ Unit))) :=
  cond (decide (s3.2 < (x10.length : Int)))
    (Option.bind (idx x10 s3.2) fun (x13 : Bs) =>
  cond (!(gmHas o6 x13))
    (some (.done (.inr (.inr (.inr ())))))
    (guardO (Nat.ble (s3.1.length + ([(gmVal o6 x13)]).length) 1000000000)
  (some (.next ((s3.1 ++ ([(gmVal o6 x13)])), (w64 (s3.2 + 1)))))))
    (some (.done (.inl s3.1)))
def m12_l3 (a0 : List Dcl) (o6 : (GMap Bs Int)) (s2 : Int × (List (List Int))) : Option (LO (Int × (List (List Int))) (((List (List Int))) ⊕ (((List (List Int)) × (GMap Bs Int)) ⊕ Unit ⊕ Unit))) :=
  cond (decide (s2.1 < (a0.length : Int)))
    (Option.bind (idx a0 s2.1) fun (x9 : Dcl) =>
  Option.bind (m53 x9) fun (x10 : (List Bs)) =>
  Option.bind (loopN (m12_l2 x10 o6) FUEL (([] : List Int), 0)) (Sum.elim (fun (o11 : (List Int)) => Option.bind (sortF o11) fun (x12 : List Int) =>
  Option.bind (compactF x12 ((Enc.encL o11).length)) fun (x13 : List Int) =>
  guardO (Nat.ble (s2.2.length + ([x13]).length) 1000000000)
  (some (.next ((w64 (s2.1 + 1)), (s2.2 ++ ([x13])))))) (fun o => some (.done (.inr o)))))
    (some (.done (.inl s2.2)))
def m12_l4 (a1 : List Bs) (y1 : (List (List Int)) × (GMap Bs Int)) (x30 : (List (List Int))) (s2 : Int × (List Bool)) : Option (LO (Int × (List Bool)) (((List Bool)) ⊕ (Unit ⊕ ((List Bool))))) :=
  cond (decide (s2.1 < (a1.length : Int)))
    (Option.bind (idx a1 s2.1) fun (x38 : Bs) =>
  cond (!(gmHas y1.2 x38))
    (some (.done (.inr (.inl ()))))
    (Option.bind (m56f12 (gmVal y1.2 x38) ((x30.length : Int).toNat) s2.2 x30) fun (x40 : (List Bool)) =>
  some (.next ((w64 (s2.1 + 1)), x40))))
    (some (.done (.inl s2.2)))
def m12_l5 (a0 : List Dcl) (y32 : (List Bool)) (x30 : (List (List Int))) (s1 : (List Bs) × Int) : Option (LO ((List Bs) × Int) (((List Bs)))) :=
  cond (decide (s1.2 < (a0.length : Int)))
    (Option.bind (idx a0 s1.2) fun (x44 : Dcl) =>
  Option.bind (idx y32 s1.2) fun (x45 : Bool) =>
  guardO (Nat.beq y32.length ((x30.length : Int).toNat))
  (cond x45
    (Option.bind (m37 x44) fun (x48 : (List Bs)) =>
  guardO (Nat.ble (s1.1.length + x48.length) 1000000000)
  (some (.next ((s1.1 ++ x48), (w64 (s1.2 + 1))))))
    (some (.next (s1.1, (w64 (s1.2 + 1)))))))
    (some (.done s1.1))
def m12 (a0 : List Dcl) (a1 : List Bs) : Option ((List Bs) × Int) :=
  Option.bind (Option.bind (loopN (m12_l1 a0) FUEL (0, gmNil)) (Sum.elim (fun (o6 : (GMap Bs Int)) => Option.bind (loopN (m12_l3 a0 o6) FUEL (0, ([] : List (List Int)))) (Sum.elim (fun (o7 : (List (List Int))) => some (.inl (o7, o6))) (fun o => some o))) (fun o => some o))) (Sum.elim (fun (y1 : (List (List Int)) × (GMap Bs Int)) => Option.bind (m36 y1.1) fun (x30 : (List (List Int))) =>
  Option.bind (guardO (cond (decide (0 ≤ (x30.length : Int))) (Nat.ble (1 * (x30.length : Int).toNat) 281474976710656) false)
  (Option.bind (loopN (m12_l4 a1 y1 x30) FUEL (0, (List.replicate (x30.length : Int).toNat false))) (Sum.elim (fun (o36 : (List Bool)) => some (.inr o36)) (fun o => some o)))) (Sum.elim (fun (y31 : Unit) => some (([] : List Bs), 9)) (fun (y32 : (List Bool)) => Option.bind (loopN (m12_l5 a0 y32 x30) FUEL (([] : List Bs), 0)) (fun (o42 : (List Bs)) => some (o42, 0))))) (Sum.elim (fun (y2 : Unit) => some (([] : List Bs), 8)) (fun (y3 : Unit) => some (([] : List Bs), 9))))
set_option maxRecDepth 100000 in
set_option maxHeartbeats 2000000 in
theorem m12_ok (a0 : List Dcl) (a1 : List Bs) (r : (List Bs) × Int) (h0 : m12 a0 a1 = some r) : Fun Try.prog 12 [.one (dS a0), .one (dS a1)] (resOf [.one (dS r.1), .one (dI r.2)]) := by
  unfold m12 at h0
  refine Fun.of_bodyM 9 49 Try.func12 rfl en_12 rfl (lb rfl) (fun S w => ?_)
  simp only [entry]
  refine XC.seq <| XC.region <| rA rfl rfl rfl <| rA rfl rfl rfl <| XL.nil <| XQ.seq <| XC.seq <| XC.region <| rM rfl rfl rfl ?_
  refine bindK h0 (fun y5 h1 h0 => ?_)
  have hc4 : CallM Try.prog 34 [.one (dS a0)] ⟨[], [], 0⟩ (resOf (((Sum.elim (fun (y1 : (List (List Int)) × (GMap Bs Int)) => ([.agg [dA 3 y1.1, .mp 1], .one (dI 0)] : List AV)) (Sum.elim (fun (y2 : Unit) => ([.agg [dN, .d (.v (.map none))], .one (dI 8)] : List AV)) (fun (y3 : Unit) => ([.agg [dN, .d (.v (.map none))], .one (dI 9)] : List AV))))) y5)) ⟨(((Sum.elim (fun (y1 : (List (List Int)) × (GMap Bs Int)) => (⟨[(2, .v (.one (.ptr 0 0))), (3, .v (.one (dI 0)))], [(0, .cells 72 [dA 3 y1.1, .mp 1]), (1, .mp (gmE y1.2.1) y1.2.2)], [(3, some ⟨54, 1, (Enc.encL y1.1).length, []⟩)], 4, 88, []⟩ : St)) (Sum.elim (fun (y2 : Unit) => (⟨[(2, .v (.one (.ptr 0 0))), (3, .v (.one (dI 8)))], [(0, .cells 72 [dN, .d (.v (.map none))])], [], 4, 88, []⟩ : St)) (fun (y3 : Unit) => (⟨[(2, .v (.one (.ptr 0 0))), (3, .v (.one (dI 9)))], [(0, .cells 72 [dN, .d (.v (.map none))])], [], 6, 88, []⟩ : St))))) y5).hp, (((Sum.elim (fun (y1 : (List (List Int)) × (GMap Bs Int)) => (⟨[(2, .v (.one (.ptr 0 0))), (3, .v (.one (dI 0)))], [(0, .cells 72 [dA 3 y1.1, .mp 1]), (1, .mp (gmE y1.2.1) y1.2.2)], [(3, some ⟨54, 1, (Enc.encL y1.1).length, []⟩)], 4, 88, []⟩ : St)) (Sum.elim (fun (y2 : Unit) => (⟨[(2, .v (.one (.ptr 0 0))), (3, .v (.one (dI 8)))], [(0, .cells 72 [dN, .d (.v (.map none))])], [], 4, 88, []⟩ : St)) (fun (y3 : Unit) => (⟨[(2, .v (.one (.ptr 0 0))), (3, .v (.one (dI 9)))], [(0, .cells 72 [dN, .d (.v (.map none))])], [], 6, 88, []⟩ : St))))) y5).tk, (((Sum.elim (fun (y1 : (List (List Int)) × (GMap Bs Int)) => (⟨[(2, .v (.one (.ptr 0 0))), (3, .v (.one (dI 0)))], [(0, .cells 72 [dA 3 y1.1, .mp 1]), (1, .mp (gmE y1.2.1) y1.2.2)], [(3, some ⟨54, 1, (Enc.encL y1.1).length, []⟩)], 4, 88, []⟩ : St)) (Sum.elim (fun (y2 : Unit) => (⟨[(2, .v (.one (.ptr 0 0))), (3, .v (.one (dI 8)))], [(0, .cells 72 [dN, .d (.v (.map none))])], [], 4, 88, []⟩ : St)) (fun (y3 : Unit) => (⟨[(2, .v (.one (.ptr 0 0))), (3, .v (.one (dI 9)))], [(0, .cells 72 [dN, .d (.v (.map none))])], [], 6, 88, []⟩ : St))))) y5).nx⟩ := by
   refine CallM.of_bodyT y5 ((Sum.elim (fun (y1 : (List (List Int)) × (GMap Bs Int)) => (⟨[(2, .v (.one (.ptr 0 0))), (3, .v (.one (dI 0)))], [(0, .cells 72 [dA 3 y1.1, .mp 1]), (1, .mp (gmE y1.2.1) y1.2.2)], [(3, some ⟨54, 1, (Enc.encL y1.1).length, []⟩)], 4, 88, []⟩ : St)) (Sum.elim (fun (y2 : Unit) => (⟨[(2, .v (.one (.ptr 0 0))), (3, .v (.one (dI 8)))], [(0, .cells 72 [dN, .d (.v (.map none))])], [], 4, 88, []⟩ : St)) (fun (y3 : Unit) => (⟨[(2, .v (.one (.ptr 0 0))), (3, .v (.one (dI 9)))], [(0, .cells 72 [dN, .d (.v (.map none))])], [], 6, 88, []⟩ : St))))) ((Sum.elim (fun (y1 : (List (List Int)) × (GMap Bs Int)) => ([.agg [dA 3 y1.1, .mp 1], .one (dI 0)] : List AV)) (Sum.elim (fun (y2 : Unit) => ([.agg [dN, .d (.v (.map none))], .one (dI 8)] : List AV)) (fun (y3 : Unit) => ([.agg [dN, .d (.v (.map none))], .one (dI 9)] : List AV))))) rfl rfl en_34 (lb rfl) (fun z_ => by cases z_ with
     | inl _ => rfl
     | inr z_ => exact (by cases z_ <;> rfl)) (fun z_ => by cases z_ with
     | inl _ => exact (RAs.agg ag_72 rfl rfl rfl rfl (RAs.tmp rfl .nil))
     | inr z_ => exact (by cases z_ with
     | inl _ => exact (RAs.agg ag_72 rfl rfl rfl rfl (RAs.tmp rfl .nil))
     | inr _ => exact (RAs.agg ag_72 rfl rfl rfl rfl (RAs.tmp rfl .nil)))) (fun w0 M V0 Q hv1 hQ1 => ?_)
   simp only [entry]
   refine XC.seq <| XC.region <| XL.put rfl rfl (lb rfl) (OpOK.alloc z_72 rfl) <| rA rfl rfl rfl <| XL.nil <| XQ.seq <| XC.seq <| XC.region <| XL.put rfl rfl (lb rfl) (OpOK.makeMapG Bs Int) <| rR rfl rfl rfl (RO.build1 bd_72 rfl rfl rfl) <| XL.put rfl rfl (lb rfl) (OpOK.alloc z_72 rfl) <| XL.eff rfl rfl (OpOK.store ag_72 rfl rfl rfl rfl (lb rfl) rfl) <| XL.nil <| XQ.seq ?_
   refine XC.seq <| XC.seq <| XC.region <| rM rfl rfl rfl <| rR rfl rfl rfl (RO.lenE (α := Dcl) sl_22 rfl (.d _)) <| rM rfl rfl rfl <| XL.nil <| XQ.seq <| XC.block ?_
   refine XC.joinX 0 (fun (o6 : (GMap Bs Int)) => ⟨[(0, .v (.one (dS a0))), (2, .v (.one (.ptr 0 0))), (4, .v (.one (.ptr 2 0)))], [(0, .cells 72 [dN, .d (.v (.map none))]), (1, .mp (gmE o6.1) o6.2), (2, .cells 72 [dN, .mp 1])], [], 3, 88, []⟩) (fun (o6 : (GMap Bs Int)) => (Option.bind (loopN (m12_l3 a0 o6) FUEL (0, ([] : List (List Int)))) (Sum.elim (fun (o7 : (List (List Int))) => some (.inl (o7, o6))) (fun o => some o))) = some y5) ?_ ?_
   ·
    refine bindK h1 (fun o7 hl2 h1 => ?_)
    refine XC.loopM (m12_l1 a0) (fun s2 => ⟨[(0, .v (.one (dS a0))), (2, .v (.one (.ptr 0 0))), (4, .v (.one (.ptr 2 0))), (20, .v (.one (dS a0))), (21, .v (.one (dI (a0.length : Int)))), (22, .v (.one (dI s2.1)))], [(0, .cells 72 [dN, .d (.v (.map none))]), (1, .mp (gmE s2.2.1) s2.2.2), (2, .cells 72 [dN, .mp 1])], [], 3, 88, []⟩) (0, gmNil) o7 (stle (tR rfl (tR rfl (tR rfl (tR rfl (tR rfl (tR rfl tZ)))))) (hR rfl (hR rfl (hR rfl hZ))) kZ rfl (Nat.le_trans hv1 (lb rfl)) rfl rfl rfl (bB rfl rfl (bG rfl (bB rfl rfl bZ))) rfl rfl) hl2 (fun s2 n2 oo2 h2 ho2 => ?_)
    unfold m12_l1 at h2
    refine XC.seq <| XC.region <| rR rfl rfl rfl (RO.binInt rfl rfl rfl) <| XL.nil <| XQ.seq <| XC.seq ?_
    refine XC.cond (b := (decide (s2.1 < (a0.length : Int)))) rfl (fun c8 => ?_) (fun c8 => ?_)
    ·
     replace h2 := condT c8 h2
     refine XC.skip <| XQ.seq <| XC.seq <| XC.block <| XC.seq <| XC.region <| rM rfl rfl rfl ?_
     refine bindK h2 (fun x9 hx9 h2 => ?_)
     refine rR rfl rfl rfl (RO.indexE (α := Dcl) sl_22 rfl (.d _) rfl hx9) <| rR rfl rfl rfl (RO.loadPelCE (x9 : Dcl) ag_48 rfl) <| XL.put rfl rfl (lb rfl) (OpOK.alloc z_48 rfl) <| rA rfl rfl rfl <| XL.eff rfl rfl (OpOK.storeCE (x9 : Dcl) ag_48 rfl rfl rfl rfl rfl) <| XL.nil <| XQ.seq <| XC.seq <| XC.region <| rR rfl rfl rfl (RO.loadCE (x9 : Dcl) ag_48 rfl rfl) ?_
     refine bindK h2 (fun x10 hx10 h2 => ?_)
     refine XL.put rfl rfl (lb rfl) (OpOK.callFun (m37_ok x9 x10 hx10) rfl (.cons (.agg (.cons (.d _) (.cons (.d _) (.cons (.d _) (.cons (.d _) (.cons (.d _) (.cons (.d _) (.cons (.d _) (.cons (.d _) (.cons (.d _) (.cons (.d _) (.cons (.d _) (.cons (.d _) (.cons (.d _) (.cons (.d _) (.cons (.d _) (.cons (.d _) (.cons (.d _) (.cons (.d _) (.cons (.d _) (.cons (.d _) (.cons (.d _) (.cons (.d _) (.cons (.d _) .nil)))))))))))))))))))))))) .nil)) <| rR rfl rfl rfl (RO.lenE (α := Bs) sl_23 rfl (.d _)) <| rM rfl rfl rfl <| XL.nil <| XQ.seq <| XC.block ?_
     refine XC.joinX 2 (fun (o11 : (GMap Bs Int)) => ⟨[(0, .v (.one (dS a0))), (2, .v (.one (.ptr 0 0))), (4, .v (.one (.ptr 2 0))), (20, .v (.one (dS a0))), (21, .v (.one (dI (a0.length : Int)))), (22, .v (.one (dI s2.1)))], [(0, .cells 72 [dN, .d (.v (.map none))]), (1, .mp (gmE o11.1) o11.2), (2, .cells 72 [dN, .mp 1]), (3, .cells 48 (cE x9))], [], 4, 88, []⟩) (fun (o11 : (GMap Bs Int)) => (some (.next ((w64 (s2.1 + 1)), o11))) = some oo2) ?_ ?_
     ·
      refine bindK h2 (fun o12 hl3 h2 => ?_)
      refine XC.loopM (m12_l0 x10 s2) (fun s3 => ⟨[(0, .v (.one (dS a0))), (2, .v (.one (.ptr 0 0))), (4, .v (.one (.ptr 2 0))), (5, .v (.one (dI s2.1))), (20, .v (.one (dS a0))), (21, .v (.one (dI (a0.length : Int)))), (22, .v (.one (dI s2.1))), (28, .v (.one (dS x10))), (29, .v (.one (dI (x10.length : Int)))), (30, .v (.one (dI s3.1)))], [(0, .cells 72 [dN, .d (.v (.map none))]), (1, .mp (gmE s3.2.1) s3.2.2), (2, .cells 72 [dN, .mp 1]), (3, .cells 48 (cE x9))], [], 4, 88, []⟩) (0, s2.2) o12 (stle (tR rfl (tR rfl (tR rfl (tR rfl (tR rfl (tR rfl (tR rfl (tR rfl (tR rfl (tR rfl tZ)))))))))) (hR rfl (hR rfl (hR rfl (hR rfl hZ)))) kZ rfl (Nat.le_trans hv1 (lb rfl)) rfl rfl rfl (bB rfl rfl (bG rfl (bB rfl rfl (bB rfl rfl bZ)))) rfl rfl) hl3 (fun s3 n3 oo3 h3 ho3 => ?_)
      unfold m12_l0 at h3
      refine XC.seq <| XC.region <| rR rfl rfl rfl (RO.binInt rfl rfl rfl) <| XL.nil <| XQ.seq <| XC.seq ?_
      refine XC.cond (b := (decide (s3.1 < (x10.length : Int)))) rfl (fun c13 => ?_) (fun c13 => ?_)
      ·
       replace h3 := condT c13 h3
       refine XC.skip <| XQ.seq <| XC.seq <| XC.block <| XC.seq <| XC.region ?_
       refine bindK h3 (fun x14 hx14 h3 => ?_)
       refine rR rfl rfl rfl (RO.indexE (α := Bs) sl_23 rfl (.d _) rfl hx14) <| rR rfl rfl rfl (RO.loadPel ag_9 rfl rfl) <| rA rfl rfl rfl <| XL.nil <| XQ.seq <| XC.seq <| XC.seq <| XC.region <| rR rfl rfl rfl (RO.fieldOwn fo_72_1 rfl) <| rR rfl rfl rfl (RO.loadOwn ag_70 rfl rfl rfl) <| rM rfl rfl rfl <| rR rfl rfl rfl (RO.lookupGT (M := s3.2) (k := x14) mp_70 zok_int rfl rfl rfl) <| rM rfl rfl rfl <| rR rfl rfl rfl (RO.extract rfl rfl) ?_
       refine rR rfl rfl rfl (RO.extract rfl rfl) <| rA rfl rfl rfl <| rA rfl rfl rfl <| XL.nil <| XQ.seq <| XC.seq <| XC.region <| rM rfl rfl rfl <| XL.nil <| XQ.seq ?_
       refine XC.cond (b := (gmHas s3.2 x14)) rfl (fun c15 => ?_) (fun c15 => ?_)
       ·
        replace h3 := condT c15 h3
        refine XC.seq <| XC.region <| rR rfl rfl rfl (RO.build0 bd_72 rfl ) <| XL.eff rfl rfl (OpOK.store ag_72 rfl rfl rfl rfl (lb rfl) rfl) <| rA rfl rfl rfl <| XL.nil <| XQ.seq <| XC.ret ?_
        have e_ := Option.some.inj h3
        subst e_
        have e_ : _ = _ := ho3
        subst e_
        try dsimp only [Sum.elim_inl, Sum.elim_inr] at h2
        have e_ := Option.some.inj h2
        subst e_
        have e_ : _ = _ := ho2
        subst e_
        try dsimp only [Sum.elim_inl, Sum.elim_inr] at h1
        have e_ := Option.some.inj h1
        subst e_
        exact hQ1 _ _ _ (.inr rfl) rfl (show StLe _ _ ⟨[(2, .v (.one (.ptr 0 0))), (3, .v (.one (dI 8)))], [(0, .cells 72 [dN, .d (.v (.map none))])], [], 4, 88, []⟩ from (stle (tR rfl (tR rfl tZ)) (hR rfl hZ) kZ rfl (Nat.le_trans hv1 (lb rfl)) rfl rfl rfl (bB rfl rfl bZ) rfl rfl))
       ·
        replace h3 := condF c15 h3
        refine XC.skip <| XQ.seq <| XC.region <| rR rfl rfl rfl (RO.fieldOwn fo_72_1 rfl) <| rR rfl rfl rfl (RO.loadOwn ag_70 rfl rfl rfl) <| rM rfl rfl rfl <| rM rfl rfl rfl <| XL.eff rfl rfl (OpOK.mapSetG (M := s3.2) (k := x14) (v := s2.1) mp_70 rfl rfl rfl rfl rfl) <| XL.nil <| XQ.inBlock <| XQ.seq <| XC.region <| rR rfl rfl rfl (RO.binInt rfl rfl rfl) <| rM rfl rfl rfl ?_
        refine XL.nil ?_
        have e_ := Option.some.inj h3
        subst e_
        refine XQ.nextM ((w64 (s3.1 + 1)), (gmSet s3.2 x14 s2.1)) (stle (tR rfl (tR rfl (tR rfl (tR rfl (tR rfl (tR rfl (tR rfl (tR rfl (tR rfl (tR rfl tZ)))))))))) (hR rfl (hR rfl (hR rfl (hR rfl hZ)))) kZ rfl (Nat.le_trans hv1 (lb rfl)) rfl rfl rfl (bB rfl rfl (bG rfl (bB rfl rfl (bB rfl rfl bZ)))) rfl rfl) ho3
      ·
       replace h3 := condF c13 h3
       refine XC.exit <| XQ.thenE <| XQ.thenE ?_
       have e_ := Option.some.inj h3
       subst e_
       have e_ : _ = _ := ho3
       subst e_
       exact XQ.joinX s3.2 (stle (tR rfl (tR rfl (tR rfl (tR rfl (tR rfl (tR rfl tZ)))))) (hR rfl (hR rfl (hR rfl (hR rfl hZ)))) kZ rfl (Nat.le_trans hv1 (lb rfl)) rfl rfl rfl (bB rfl rfl (bG rfl (bB rfl rfl (bB rfl rfl bZ)))) rfl rfl) h2
     ·
      intro o11 h2
      refine XQ.blockX <| XQ.inBlock <| XQ.seq <| XC.region <| rR rfl rfl rfl (RO.binInt rfl rfl rfl) <| rM rfl rfl rfl <| XL.nil ?_
      have e_ := Option.some.inj h2
      subst e_
      refine XQ.nextM ((w64 (s2.1 + 1)), o11) (stle (tR rfl (tR rfl (tR rfl (tR rfl (tR rfl (tR rfl tZ)))))) (hR rfl (hR rfl (hR rfl hZ))) kZ rfl (Nat.le_trans hv1 (lb rfl)) rfl rfl rfl (bB rfl rfl (bG rfl (bB rfl rfl bZ))) rfl rfl) ho2
    ·
     replace h2 := condF c8 h2
     refine XC.exit <| XQ.thenE <| XQ.thenE ?_
     have e_ := Option.some.inj h2
     subst e_
     have e_ : _ = _ := ho2
     subst e_
     exact XQ.joinX s2.2 (stle (tR rfl (tR rfl (tR rfl tZ))) (hR rfl (hR rfl (hR rfl hZ))) kZ rfl (Nat.le_trans hv1 (lb rfl)) rfl rfl rfl (bB rfl rfl (bG rfl (bB rfl rfl bZ))) rfl rfl) h1
   ·
    intro o6 h1
    refine XQ.blockX <| XQ.seq <| XC.seq <| XC.seq <| XC.region <| rM rfl rfl rfl <| rR rfl rfl rfl (RO.lenE (α := Dcl) sl_22 rfl (.d _)) <| rM rfl rfl rfl <| XL.nil <| XQ.seq <| XC.block ?_
    refine XC.joinX 4 (fun (o16 : (List (List Int))) => ⟨[(2, .v (.one (.ptr 0 0))), (4, .v (.one (.ptr 2 0)))], [(0, .cells 72 [dN, .d (.v (.map none))]), (1, .mp (gmE o6.1) o6.2), (2, .cells 72 [dA 3 o16, .mp 1])], [(3, some ⟨54, 1, (Enc.encL o16).length, []⟩)], 4, 88, []⟩) (fun (o16 : (List (List Int))) => (some (.inl (o16, o6))) = some y5) ?_ ?_
    ·
     refine XC.adoptC (i := 2) (off := 0) 54 1 rfl rfl ?_
     refine bindK h1 (fun o17 hl2 h1 => ?_)
     refine XC.loopM (m12_l3 a0 o6) (fun s2 => ⟨[(2, .v (.one (.ptr 0 0))), (4, .v (.one (.ptr 2 0))), (49, .v (.one (dS a0))), (50, .v (.one (dI (a0.length : Int)))), (51, .v (.one (dI s2.1)))], [(0, .cells 72 [dN, .d (.v (.map none))]), (1, .mp (gmE o6.1) o6.2), (2, .cells 72 [dA 3 s2.2, .mp 1])], [(3, some ⟨54, 1, (Enc.encL s2.2).length, []⟩)], 4, 88, []⟩) (0, ([] : List (List Int))) o17 (stle (tR rfl (tR rfl (tR rfl (tR rfl (tR rfl tZ))))) (hR rfl (hR rfl (hR rfl hZ))) (kR rfl kZ) rfl (Nat.le_trans hv1 (lb rfl)) rfl rfl rfl (bB rfl rfl (bG rfl (bB rfl rfl bZ))) rfl rfl) hl2 (fun s2 n2 oo2 h2 ho2 => ?_)
     unfold m12_l3 at h2
     refine XC.seq <| XC.region <| rR rfl rfl rfl (RO.binInt rfl rfl rfl) <| XL.nil <| XQ.seq <| XC.seq ?_
     refine XC.cond (b := (decide (s2.1 < (a0.length : Int)))) rfl (fun c18 => ?_) (fun c18 => ?_)
     ·
      replace h2 := condT c18 h2
      refine XC.skip <| XQ.seq <| XC.seq <| XC.block <| XC.seq <| XC.region ?_
      refine bindK h2 (fun x19 hx19 h2 => ?_)
      refine rR rfl rfl rfl (RO.indexE (α := Dcl) sl_22 rfl (.d _) rfl hx19) <| rR rfl rfl rfl (RO.loadPelCE (x19 : Dcl) ag_48 rfl) <| XL.put rfl rfl (lb rfl) (OpOK.alloc z_48 rfl) <| XL.eff rfl rfl (OpOK.storeCE (x19 : Dcl) ag_48 rfl rfl rfl rfl rfl) <| XL.nil <| XQ.seq <| XC.seq <| XC.region <| rA rfl rfl rfl <| XL.nil <| XQ.seq <| XC.seq <| XC.seq <| XC.region ?_
      refine rR rfl rfl rfl (RO.loadCE (x19 : Dcl) ag_48 rfl rfl) ?_
      refine bindK h2 (fun x20 hx20 h2 => ?_)
      refine XL.put rfl rfl (lb rfl) (OpOK.callFun (m53_ok x19 x20 hx20) rfl (.cons (.agg (.cons (.d _) (.cons (.d _) (.cons (.d _) (.cons (.d _) (.cons (.d _) (.cons (.d _) (.cons (.d _) (.cons (.d _) (.cons (.d _) (.cons (.d _) (.cons (.d _) (.cons (.d _) (.cons (.d _) (.cons (.d _) (.cons (.d _) (.cons (.d _) (.cons (.d _) (.cons (.d _) (.cons (.d _) (.cons (.d _) (.cons (.d _) (.cons (.d _) (.cons (.d _) .nil)))))))))))))))))))))))) .nil)) <| rR rfl rfl rfl (RO.lenE (α := Bs) sl_23 rfl (.d _)) <| rM rfl rfl rfl <| XL.nil <| XQ.seq <| XC.block ?_
      refine XC.joinX 6 (fun (o21 : (List Int)) => ⟨[(2, .v (.one (.ptr 0 0))), (4, .v (.one (.ptr 2 0))), (13, .v (.one (.apv 5 1 ((Enc.encL o21).length) []))), (49, .v (.one (dS a0))), (50, .v (.one (dI (a0.length : Int)))), (51, .v (.one (dI s2.1)))], [(0, .cells 72 [dN, .d (.v (.map none))]), (1, .mp (gmE o6.1) o6.2), (2, .cells 72 [dA 3 s2.2, .mp 1]), (4, .cells 48 (cE x19))], [(3, some ⟨54, 1, (Enc.encL s2.2).length, []⟩), (5, some ⟨3, 1, (Enc.encL o21).length, (Enc.encL o21).flatten⟩)], 6, 88, []⟩) (fun (o21 : (List Int)) => (Option.bind (sortF o21) fun (x22 : List Int) =>
        Option.bind (compactF x22 ((Enc.encL o21).length)) fun (x23 : List Int) =>
        guardO (Nat.ble (s2.2.length + ([x23]).length) 1000000000)
        (some (.next ((w64 (s2.1 + 1)), (s2.2 ++ ([x23])))))) = some oo2) ?_ ?_
      ·
       refine XC.adoptT (t := 13) 3 1 rfl <| XC.privT (α := Int) (t := 13) rfl rfl ?_
       refine bindK h2 (fun o22 hl3 h2 => ?_)
       refine XC.loopM (m12_l2 x20 o6) (fun s3 => ⟨[(2, .v (.one (.ptr 0 0))), (4, .v (.one (.ptr 2 0))), (13, .v (.one (.apv 5 1 ((Enc.encL s3.1).length) []))), (49, .v (.one (dS a0))), (50, .v (.one (dI (a0.length : Int)))), (51, .v (.one (dI s2.1))), (56, .v (.one (dS x20))), (57, .v (.one (dI (x20.length : Int)))), (58, .v (.one (dI s3.2)))], [(0, .cells 72 [dN, .d (.v (.map none))]), (1, .mp (gmE o6.1) o6.2), (2, .cells 72 [dA 3 s2.2, .mp 1]), (4, .cells 48 (cE x19))], [(3, some ⟨54, 1, (Enc.encL s2.2).length, []⟩), (5, some ⟨3, 1, (Enc.encL s3.1).length, (Enc.encL s3.1).flatten⟩)], 6, 88, []⟩) (([] : List Int), 0) o22 (stle (tR rfl (tR rfl (tR rfl (tR rfl (tR rfl (tR rfl (tR rfl (tR rfl (tR rfl tZ))))))))) (hR rfl (hR rfl (hR rfl (hR rfl hZ)))) (kR rfl (kR rfl kZ)) rfl (Nat.le_trans hv1 (lb rfl)) rfl rfl rfl (bB rfl rfl (bG rfl (bB rfl rfl (bB rfl rfl bZ)))) rfl rfl) hl3 (fun s3 n3 oo3 h3 ho3 => ?_)
       unfold m12_l2 at h3
       refine XC.seq <| XC.region <| rR rfl rfl rfl (RO.binInt rfl rfl rfl) <| XL.nil <| XQ.seq <| XC.seq ?_
       refine XC.cond (b := (decide (s3.2 < (x20.length : Int)))) rfl (fun c23 => ?_) (fun c23 => ?_)
       ·
        replace h3 := condT c23 h3
        refine XC.skip <| XQ.seq <| XC.seq <| XC.block <| XC.seq <| XC.region ?_
        refine bindK h3 (fun x24 hx24 h3 => ?_)
        refine rR rfl rfl rfl (RO.indexE (α := Bs) sl_23 rfl (.d _) rfl hx24) <| rR rfl rfl rfl (RO.loadPel ag_9 rfl rfl) <| rA rfl rfl rfl <| XL.nil <| XQ.seq <| XC.seq <| XC.region <| rR rfl rfl rfl (RO.fieldOwn fo_72_1 rfl) <| rR rfl rfl rfl (RO.loadOwn ag_70 rfl rfl rfl) <| rM rfl rfl rfl <| rR rfl rfl rfl (RO.lookupGT (M := o6) (k := x24) mp_70 zok_int rfl rfl rfl) <| rM rfl rfl rfl <| rR rfl rfl rfl (RO.extract rfl rfl) <| rR rfl rfl rfl (RO.extract rfl rfl) ?_
        refine rA rfl rfl rfl <| rA rfl rfl rfl <| XL.nil <| XQ.seq <| XC.seq <| XC.seq <| XC.region <| rM rfl rfl rfl <| rR rfl rfl rfl (RO.not rfl) <| XL.nil <| XQ.seq ?_
        refine XC.cond (b := (!(gmHas o6 x24))) rfl (fun c25 => ?_) (fun c25 => ?_)
        ·
         replace h3 := condT c25 h3
         refine XC.seq <| XC.region <| rR rfl rfl rfl (RO.build0 bd_72 rfl ) <| XL.eff rfl rfl (OpOK.store ag_72 rfl rfl rfl rfl (lb rfl) rfl) <| rA rfl rfl rfl <| XL.nil <| XQ.seq <| XC.ret ?_
         have e_ := Option.some.inj h3
         subst e_
         have e_ : _ = _ := ho3
         subst e_
         try dsimp only [Sum.elim_inl, Sum.elim_inr] at h2
         have e_ := Option.some.inj h2
         subst e_
         have e_ : _ = _ := ho2
         subst e_
         try dsimp only [Sum.elim_inl, Sum.elim_inr] at h1
         have e_ := Option.some.inj h1
         subst e_
         exact hQ1 _ _ _ (.inr rfl) rfl (show StLe _ _ ⟨[(2, .v (.one (.ptr 0 0))), (3, .v (.one (dI 9)))], [(0, .cells 72 [dN, .d (.v (.map none))])], [], 6, 88, []⟩ from (stle (tR rfl (tR rfl tZ)) (hR rfl hZ) kZ rfl (Nat.le_trans hv1 (lb rfl)) rfl rfl rfl (bB rfl rfl bZ) rfl rfl))
        ·
         replace h3 := condF c25 h3
         refine XC.skip <| XQ.seq <| XC.region <| rM rfl rfl rfl <| rM rfl rfl rfl <| XL.put rfl rfl (lb rfl) (OpOK.lit1E (α := Int) ((gmVal o6 x24)) sl_54 z_3 rfl rfl (lb rfl) (lb rfl) rfl rfl (.cons (.d _) .nil) rfl) ?_
         refine guardK h3 (fun g26 h3 => ?_)
         refine XL.put rfl rfl (lb rfl) (OpOK.appendPr (α := Int) (l := s3.1) (l2 := ([(gmVal o6 x24)] : List Int)) sl_54 el_3 rfl rfl rfl rfl (.app _ _) rfl g26) <| rA rfl rfl rfl <| XL.nil <| XQ.inBlock <| XQ.seq <| XC.region <| rR rfl rfl rfl (RO.binInt rfl rfl rfl) <| rM rfl rfl rfl <| XL.nil ?_
         have e_ := Option.some.inj h3
         subst e_
         refine XQ.nextM ((s3.1 ++ ([(gmVal o6 x24)])), (w64 (s3.2 + 1))) (stle (tR rfl (tR rfl (tR rfl (tR rfl (tR rfl (tR rfl (tR rfl (tR rfl (tR rfl tZ))))))))) (hR rfl (hR rfl (hR rfl (hR rfl hZ)))) (kR rfl (kR rfl kZ)) rfl (Nat.le_trans hv1 (lb rfl)) rfl rfl rfl (bB rfl rfl (bG rfl (bB rfl rfl (bB rfl rfl bZ)))) rfl rfl) ho3
       ·
        replace h3 := condF c23 h3
        refine XC.exit <| XQ.thenE <| XQ.thenE ?_
        have e_ := Option.some.inj h3
        subst e_
        have e_ : _ = _ := ho3
        subst e_
        exact XQ.joinX s3.1 (stle (tR rfl (tR rfl (tR rfl (tR rfl (tR rfl (tR rfl tZ)))))) (hR rfl (hR rfl (hR rfl (hR rfl hZ)))) (kR rfl (kR rfl kZ)) rfl (Nat.le_trans hv1 (lb rfl)) rfl rfl rfl (bB rfl rfl (bG rfl (bB rfl rfl (bB rfl rfl bZ)))) rfl rfl) h2
      ·
       intro o21 h2
       refine XQ.blockX <| XQ.seq <| XC.seq <| XC.region <| rM rfl rfl rfl ?_
       refine bindK h2 (fun x27 hx27 h2 => ?_)
       refine XL.put rfl rfl (lb rfl) (OpOK.callG (hp1' := []) (tk1' := [(5, some ⟨3, 1, (Enc.encL o21).length, (Enc.encL x27).flatten⟩)]) (hpF := [(0, .cells 72 [dN, .d (.v (.map none))]), (1, .mp (gmE o6.1) o6.2), (2, .cells 72 [dA 3 s2.2, .mp 1]), (4, .cells 48 (cE x19))]) (tkF := [(3, some ⟨54, 1, (Enc.encL s2.2).length, []⟩)]) (res2 := resOf []) (nx2 := 6) [5] rfl rfl (sortF_ok o21 x27 hx27) rfl rfl qZ rfl rfl gZ (jR rfl jZ) (hR rfl (hR rfl (hR rfl (hR rfl hZ)))) (kR rfl kZ) rfl rfl rfl rfl rfl bZ rfl rfl rfl rfl) <| XL.nil <| XQ.seq ?_
       refine XC.anyRun [3, 5, 7] [(0, 1), (1, 1)] mixed (by kernel_rfl) (by kernel_rfl) (by kernel_rfl) ?_
       refine RunA.rd rfl rfl rfl (OpOK.of_ro (RO.fieldOwn fo_72_0 rfl)) rfl <| RunA.rd rfl rfl rfl (OpOK.of_ro (RO.loadOwn ag_57 rfl rfl rfl)) rfl <| RunA.rd rfl rfl rfl (OpOK.of_ro (RO.move rfl)) rfl ?_
       refine bindK h2 (fun x28 hx28 h2 => ?_)
       refine RunA.eff rfl rfl rfl (OpOK.callG (hp1' := []) (tk1' := [(6, some ⟨3, 1, (Enc.encL x28).length, []⟩)]) (hpF := [(0, .cells 72 [dN, .d (.v (.map none))]), (1, .mp (gmE o6.1) o6.2), (2, .cells 72 [dA 3 s2.2, .mp 1]), (4, .cells 48 (cE x19))]) (tkF := [(3, some ⟨54, 1, (Enc.encL s2.2).length, []⟩)]) (res2 := resOf [.one (dA 6 x28)]) (nx2 := 7) [5] rfl rfl (compactF_ok x27 ((Enc.encL o21).length) x28 hx28) rfl rfl qZ rfl rfl gZ (jR rfl jZ) (hR rfl (hR rfl (hR rfl (hR rfl hZ)))) (kR rfl kZ) rfl rfl rfl rfl rfl bZ rfl rfl rfl rfl) rfl <| RunA.rd rfl rfl rfl (OpOK.data1E (α := List Int) (x28) sl_57 z_54 rfl rfl (lb rfl) rfl rfl (.cons (.app _ _ _) .nil) rfl) rfl ?_
       refine guardK h2 (fun g29 h2 => ?_)
       refine RunA.eff rfl rfl rfl (OpOK.appendE (α := List Int) sl_57 el_54 rfl rfl rfl rfl rfl (.d _) g29) rfl <| RunA.rd rfl rfl rfl (OpOK.of_ro (RO.fieldOwn fo_72_0 rfl)) rfl <| RunA.eff rfl rfl rfl (OpOK.store ag_57 rfl rfl rfl rfl (lb rfl) rfl) rfl ?_
       refine RunA.nil ⟨?ex, _, _, rfl, ?_⟩
       case ex => exact ⟨⟨_, rfl, _, _, rfl, rfl, rfl, .inl ⟨rfl, _, OpOK.of_ro (RO.fieldOwn fo_72_0 rfl), rfl⟩⟩, ⟨_, rfl, _, _, rfl, rfl, rfl, .inl ⟨rfl, _, OpOK.of_ro (RO.loadOwn ag_57 rfl rfl rfl), rfl⟩⟩, trivial⟩
       refine XQ.less (st' := ⟨[(2, .v (.one (.ptr 0 0))), (4, .v (.one (.ptr 2 0))), (49, .v (.one (dS a0))), (50, .v (.one (dI (a0.length : Int)))), (51, .v (.one (dI s2.1)))], [(0, .cells 72 [dN, .d (.v (.map none))]), (1, .mp (gmE o6.1) o6.2), (2, .cells 72 [dA 3 ((s2.2 ++ ([x28])) : List (List Int)), .mp 1]), (4, .cells 48 (cE x19))], [(3, some ⟨54, 1, (Enc.encL ((s2.2 ++ ([x28])) : List (List Int))).length, []⟩), (6, some ⟨3, 1, (Enc.encL x28).length, []⟩)], 7, 88, []⟩) (stle (tR rfl (tR rfl (tR rfl (tR rfl (tR rfl tZ))))) (hR rfl (hR rfl (hR rfl (hR rfl hZ)))) (kR rfl (kR rfl kZ)) rfl (Nat.le_trans hv1 (lb rfl)) rfl rfl rfl (bB rfl rfl (bG rfl (bB rfl rfl (bB rfl rfl bZ)))) rfl rfl) <| XQ.inBlock <| XQ.seq <| XC.region <| rR rfl rfl rfl (RO.binInt rfl rfl rfl) <| rM rfl rfl rfl <| XL.nil ?_
       have e_ := Option.some.inj h2
       subst e_
       refine XQ.nextM ((w64 (s2.1 + 1)), (s2.2 ++ ([x28]))) (stle (tR rfl (tR rfl (tR rfl (tR rfl (tR rfl tZ))))) (hR rfl (hR rfl (hR rfl hZ))) (kR rfl kZ) rfl (Nat.le_trans hv1 (lb rfl)) rfl rfl rfl (bB rfl rfl (bG rfl (bB rfl rfl bZ))) rfl rfl) ho2
     ·
      replace h2 := condF c18 h2
      refine XC.exit <| XQ.thenE <| XQ.thenE ?_
      have e_ := Option.some.inj h2
      subst e_
      have e_ : _ = _ := ho2
      subst e_
      exact XQ.joinX s2.2 (stle (tR rfl (tR rfl tZ)) (hR rfl (hR rfl (hR rfl hZ))) (kR rfl kZ) rfl (Nat.le_trans hv1 (lb rfl)) rfl rfl rfl (bB rfl rfl (bG rfl (bB rfl rfl bZ))) rfl rfl) h1
    ·
     intro o16 h1
     refine XQ.blockX <| XQ.seq <| XC.seq <| XC.region <| rR rfl rfl rfl (RO.loadOwnAgg ag_72 rfl rfl rfl rfl) <| XL.eff rfl rfl (OpOK.store ag_72 rfl rfl rfl rfl (lb rfl) rfl) <| rA rfl rfl rfl <| XL.nil <| XQ.seq <| XC.ret ?_
     have e_ := Option.some.inj h1
     subst e_
     exact hQ1 _ _ _ (.inr rfl) rfl (show StLe _ _ ⟨[(2, .v (.one (.ptr 0 0))), (3, .v (.one (dI 0)))], [(0, .cells 72 [dA 3 o16, .mp 1]), (1, .mp (gmE o6.1) o6.2)], [(3, some ⟨54, 1, (Enc.encL o16).length, []⟩)], 4, 88, []⟩ from (stle (tR rfl (tR rfl tZ)) (hR rfl (hR rfl hZ)) (kR rfl kZ) rfl (Nat.le_trans hv1 (lb rfl)) rfl rfl rfl (bB rfl rfl (bG rfl bZ)) rfl rfl))
  refine sumK (C := fun q_ => CallM Try.prog 34 [.one (dS a0)] ⟨[], [], 0⟩ (resOf (((Sum.elim (fun (y1 : (List (List Int)) × (GMap Bs Int)) => ([.agg [dA 3 y1.1, .mp 1], .one (dI 0)] : List AV)) (Sum.elim (fun (y2 : Unit) => ([.agg [dN, .d (.v (.map none))], .one (dI 8)] : List AV)) (fun (y3 : Unit) => ([.agg [dN, .d (.v (.map none))], .one (dI 9)] : List AV))))) q_)) ⟨(((Sum.elim (fun (y1 : (List (List Int)) × (GMap Bs Int)) => (⟨[(2, .v (.one (.ptr 0 0))), (3, .v (.one (dI 0)))], [(0, .cells 72 [dA 3 y1.1, .mp 1]), (1, .mp (gmE y1.2.1) y1.2.2)], [(3, some ⟨54, 1, (Enc.encL y1.1).length, []⟩)], 4, 88, []⟩ : St)) (Sum.elim (fun (y2 : Unit) => (⟨[(2, .v (.one (.ptr 0 0))), (3, .v (.one (dI 8)))], [(0, .cells 72 [dN, .d (.v (.map none))])], [], 4, 88, []⟩ : St)) (fun (y3 : Unit) => (⟨[(2, .v (.one (.ptr 0 0))), (3, .v (.one (dI 9)))], [(0, .cells 72 [dN, .d (.v (.map none))])], [], 6, 88, []⟩ : St))))) q_).hp, (((Sum.elim (fun (y1 : (List (List Int)) × (GMap Bs Int)) => (⟨[(2, .v (.one (.ptr 0 0))), (3, .v (.one (dI 0)))], [(0, .cells 72 [dA 3 y1.1, .mp 1]), (1, .mp (gmE y1.2.1) y1.2.2)], [(3, some ⟨54, 1, (Enc.encL y1.1).length, []⟩)], 4, 88, []⟩ : St)) (Sum.elim (fun (y2 : Unit) => (⟨[(2, .v (.one (.ptr 0 0))), (3, .v (.one (dI 8)))], [(0, .cells 72 [dN, .d (.v (.map none))])], [], 4, 88, []⟩ : St)) (fun (y3 : Unit) => (⟨[(2, .v (.one (.ptr 0 0))), (3, .v (.one (dI 9)))], [(0, .cells 72 [dN, .d (.v (.map none))])], [], 6, 88, []⟩ : St))))) q_).tk, (((Sum.elim (fun (y1 : (List (List Int)) × (GMap Bs Int)) => (⟨[(2, .v (.one (.ptr 0 0))), (3, .v (.one (dI 0)))], [(0, .cells 72 [dA 3 y1.1, .mp 1]), (1, .mp (gmE y1.2.1) y1.2.2)], [(3, some ⟨54, 1, (Enc.encL y1.1).length, []⟩)], 4, 88, []⟩ : St)) (Sum.elim (fun (y2 : Unit) => (⟨[(2, .v (.one (.ptr 0 0))), (3, .v (.one (dI 8)))], [(0, .cells 72 [dN, .d (.v (.map none))])], [], 4, 88, []⟩ : St)) (fun (y3 : Unit) => (⟨[(2, .v (.one (.ptr 0 0))), (3, .v (.one (dI 9)))], [(0, .cells 72 [dN, .d (.v (.map none))])], [], 6, 88, []⟩ : St))))) q_).nx⟩) hc4 h0 (fun y1 hc4 h0 => ?_) (fun z_ hc4 h0 => sumK (C := fun q_ => CallM Try.prog 34 [.one (dS a0)] ⟨[], [], 0⟩ (resOf (((Sum.elim (fun (y1 : (List (List Int)) × (GMap Bs Int)) => ([.agg [dA 3 y1.1, .mp 1], .one (dI 0)] : List AV)) (Sum.elim (fun (y2 : Unit) => ([.agg [dN, .d (.v (.map none))], .one (dI 8)] : List AV)) (fun (y3 : Unit) => ([.agg [dN, .d (.v (.map none))], .one (dI 9)] : List AV))))) (.inr q_))) ⟨(((Sum.elim (fun (y1 : (List (List Int)) × (GMap Bs Int)) => (⟨[(2, .v (.one (.ptr 0 0))), (3, .v (.one (dI 0)))], [(0, .cells 72 [dA 3 y1.1, .mp 1]), (1, .mp (gmE y1.2.1) y1.2.2)], [(3, some ⟨54, 1, (Enc.encL y1.1).length, []⟩)], 4, 88, []⟩ : St)) (Sum.elim (fun (y2 : Unit) => (⟨[(2, .v (.one (.ptr 0 0))), (3, .v (.one (dI 8)))], [(0, .cells 72 [dN, .d (.v (.map none))])], [], 4, 88, []⟩ : St)) (fun (y3 : Unit) => (⟨[(2, .v (.one (.ptr 0 0))), (3, .v (.one (dI 9)))], [(0, .cells 72 [dN, .d (.v (.map none))])], [], 6, 88, []⟩ : St))))) (.inr q_)).hp, (((Sum.elim (fun (y1 : (List (List Int)) × (GMap Bs Int)) => (⟨[(2, .v (.one (.ptr 0 0))), (3, .v (.one (dI 0)))], [(0, .cells 72 [dA 3 y1.1, .mp 1]), (1, .mp (gmE y1.2.1) y1.2.2)], [(3, some ⟨54, 1, (Enc.encL y1.1).length, []⟩)], 4, 88, []⟩ : St)) (Sum.elim (fun (y2 : Unit) => (⟨[(2, .v (.one (.ptr 0 0))), (3, .v (.one (dI 8)))], [(0, .cells 72 [dN, .d (.v (.map none))])], [], 4, 88, []⟩ : St)) (fun (y3 : Unit) => (⟨[(2, .v (.one (.ptr 0 0))), (3, .v (.one (dI 9)))], [(0, .cells 72 [dN, .d (.v (.map none))])], [], 6, 88, []⟩ : St))))) (.inr q_)).tk, (((Sum.elim (fun (y1 : (List (List Int)) × (GMap Bs Int)) => (⟨[(2, .v (.one (.ptr 0 0))), (3, .v (.one (dI 0)))], [(0, .cells 72 [dA 3 y1.1, .mp 1]), (1, .mp (gmE y1.2.1) y1.2.2)], [(3, some ⟨54, 1, (Enc.encL y1.1).length, []⟩)], 4, 88, []⟩ : St)) (Sum.elim (fun (y2 : Unit) => (⟨[(2, .v (.one (.ptr 0 0))), (3, .v (.one (dI 8)))], [(0, .cells 72 [dN, .d (.v (.map none))])], [], 4, 88, []⟩ : St)) (fun (y3 : Unit) => (⟨[(2, .v (.one (.ptr 0 0))), (3, .v (.one (dI 9)))], [(0, .cells 72 [dN, .d (.v (.map none))])], [], 6, 88, []⟩ : St))))) (.inr q_)).nx⟩) hc4 h0 (fun y2 hc4 h0 => ?_) (fun y3 hc4 h0 => ?_))
  ·
   replace hc4 : CallM Try.prog 34 [.one (dS a0)] ⟨[], [], 0⟩ (resOf [.agg [dA 3 y1.1, .mp 1], .one (dI 0)]) ⟨[(0, .cells 72 [dA 3 y1.1, .mp 1]), (1, .mp (gmE y1.2.1) y1.2.2)], [(3, some ⟨54, 1, (Enc.encL y1.1).length, []⟩)], 4⟩ := hc4
   refine XL.put rfl rfl (lb rfl) (OpOK.callW rfl rfl rfl hc4 rfl hZ kZ) <| rM rfl rfl rfl <| rR rfl rfl rfl (RO.extract rfl rfl) <| rR rfl rfl rfl (RO.extract rfl rfl) <| XL.put rfl rfl (lb rfl) (OpOK.alloc z_72 rfl) <| XL.eff rfl rfl (OpOK.store ag_72 rfl rfl rfl rfl (lb rfl) rfl) <| rA rfl rfl rfl <| XL.nil <| XQ.seq <| XC.seq <| XC.seq <| XC.region <| rM rfl rfl rfl <| rR rfl rfl rfl (RO.binInt rfl rfl rfl) ?_
   refine XL.nil <| XQ.seq ?_
   refine XC.cond rfl (fun h => nomatch h) (fun _ => ?_)
   refine XC.skip <| XQ.seq <| XC.seq ?_
   refine XC.anyRun [5] [] mixed (by kernel_rfl) (by kernel_rfl) (by kernel_rfl) ?_
   refine RunA.rd rfl rfl rfl (OpOK.of_ro (RO.loadOwnAgg ag_72 rfl rfl rfl rfl)) rfl <| RunA.rd rfl rfl rfl (OpOK.of_ro (RO.fieldOwn fo_72_0 rfl)) rfl <| RunA.rd rfl rfl rfl (OpOK.of_ro (RO.loadOwn ag_57 rfl rfl rfl)) rfl ?_
   refine bindK h0 (fun x30 hx30 h0 => ?_)
   refine RunA.rd rfl rfl rfl (OpOK.callFun (m36_ok y1.1 x30 hx30) rfl (.cons (.one (.app _ _ _)) .nil)) rfl <| RunA.rd rfl rfl rfl (OpOK.of_ro (RO.move rfl)) rfl ?_
   refine bindK h0 (fun y34 h1 h0 => ?_)
   have hc33 : CallM Try.prog 35 [.agg [dA 3 y1.1, .mp 1], .one (dS x30), .one (dS a1)] ⟨[(0, .cells 72 [dA 3 y1.1, .mp 1]), (1, .mp (gmE y1.2.1) y1.2.2), (4, .cells 72 [dA 3 y1.1, .mp 1])], [(3, some ⟨54, 1, (Enc.encL y1.1).length, []⟩)], 5⟩ (resOf (((Sum.elim (fun (y31 : Unit) => ([.one (dN), .one (dI 9)] : List AV)) (fun (y32 : (List Bool)) => ([.one (.osl 7 0 ((x30.length : Int).toNat) ((x30.length : Int).toNat)), .one (dI 0)] : List AV)))) y34)) ⟨(((Sum.elim (fun (y31 : Unit) => (⟨[(6, .v (.one (dN))), (7, .v (.one (dI 9)))], [(0, .cells 72 [dA 3 y1.1, .mp 1]), (1, .mp (gmE y1.2.1) y1.2.2), (4, .cells 72 [dA 3 y1.1, .mp 1])], [(3, some ⟨54, 1, (Enc.encL y1.1).length, []⟩)], 10, 38, []⟩ : St)) (fun (y32 : (List Bool)) => (⟨[(6, .v (.one (.osl 7 0 ((x30.length : Int).toNat) ((x30.length : Int).toNat)))), (7, .v (.one (dI 0)))], [(0, .cells 72 [dA 3 y1.1, .mp 1]), (1, .mp (gmE y1.2.1) y1.2.2), (4, .cells 72 [dA 3 y1.1, .mp 1]), (7, .cells 4 (flatE y32))], [(3, some ⟨54, 1, (Enc.encL y1.1).length, []⟩)], 10, 38, []⟩ : St)))) y34).hp, (((Sum.elim (fun (y31 : Unit) => (⟨[(6, .v (.one (dN))), (7, .v (.one (dI 9)))], [(0, .cells 72 [dA 3 y1.1, .mp 1]), (1, .mp (gmE y1.2.1) y1.2.2), (4, .cells 72 [dA 3 y1.1, .mp 1])], [(3, some ⟨54, 1, (Enc.encL y1.1).length, []⟩)], 10, 38, []⟩ : St)) (fun (y32 : (List Bool)) => (⟨[(6, .v (.one (.osl 7 0 ((x30.length : Int).toNat) ((x30.length : Int).toNat)))), (7, .v (.one (dI 0)))], [(0, .cells 72 [dA 3 y1.1, .mp 1]), (1, .mp (gmE y1.2.1) y1.2.2), (4, .cells 72 [dA 3 y1.1, .mp 1]), (7, .cells 4 (flatE y32))], [(3, some ⟨54, 1, (Enc.encL y1.1).length, []⟩)], 10, 38, []⟩ : St)))) y34).tk, (((Sum.elim (fun (y31 : Unit) => (⟨[(6, .v (.one (dN))), (7, .v (.one (dI 9)))], [(0, .cells 72 [dA 3 y1.1, .mp 1]), (1, .mp (gmE y1.2.1) y1.2.2), (4, .cells 72 [dA 3 y1.1, .mp 1])], [(3, some ⟨54, 1, (Enc.encL y1.1).length, []⟩)], 10, 38, []⟩ : St)) (fun (y32 : (List Bool)) => (⟨[(6, .v (.one (.osl 7 0 ((x30.length : Int).toNat) ((x30.length : Int).toNat)))), (7, .v (.one (dI 0)))], [(0, .cells 72 [dA 3 y1.1, .mp 1]), (1, .mp (gmE y1.2.1) y1.2.2), (4, .cells 72 [dA 3 y1.1, .mp 1]), (7, .cells 4 (flatE y32))], [(3, some ⟨54, 1, (Enc.encL y1.1).length, []⟩)], 10, 38, []⟩ : St)))) y34).nx⟩ := by
    refine CallM.of_bodyT y34 ((Sum.elim (fun (y31 : Unit) => (⟨[(6, .v (.one (dN))), (7, .v (.one (dI 9)))], [(0, .cells 72 [dA 3 y1.1, .mp 1]), (1, .mp (gmE y1.2.1) y1.2.2), (4, .cells 72 [dA 3 y1.1, .mp 1])], [(3, some ⟨54, 1, (Enc.encL y1.1).length, []⟩)], 10, 38, []⟩ : St)) (fun (y32 : (List Bool)) => (⟨[(6, .v (.one (.osl 7 0 ((x30.length : Int).toNat) ((x30.length : Int).toNat)))), (7, .v (.one (dI 0)))], [(0, .cells 72 [dA 3 y1.1, .mp 1]), (1, .mp (gmE y1.2.1) y1.2.2), (4, .cells 72 [dA 3 y1.1, .mp 1]), (7, .cells 4 (flatE y32))], [(3, some ⟨54, 1, (Enc.encL y1.1).length, []⟩)], 10, 38, []⟩ : St)))) ((Sum.elim (fun (y31 : Unit) => ([.one (dN), .one (dI 9)] : List AV)) (fun (y32 : (List Bool)) => ([.one (.osl 7 0 ((x30.length : Int).toNat) ((x30.length : Int).toNat)), .one (dI 0)] : List AV)))) rfl rfl en_35 (lb rfl) (fun z_ => by cases z_ <;> rfl) (fun z_ => by cases z_ with
      | inl _ => exact (RAs.tmp rfl (RAs.tmp rfl .nil))
      | inr _ => exact (RAs.tmp rfl (RAs.tmp rfl .nil))) (fun w0 M V0 Q hv1 hQ1 => ?_)
    simp only [entry]
    refine XC.seq <| XC.region <| XL.put rfl rfl (lb rfl) (OpOK.box rfl) <| XL.put rfl rfl (lb rfl) (OpOK.box rfl) <| rA rfl rfl rfl <| rA rfl rfl rfl <| XL.nil <| XQ.seq <| XC.seq <| XC.region <| rR rfl rfl rfl (RO.loadOwn ag_57 rfl rfl rfl) <| rR rfl rfl rfl (RO.lenE (α := List Int) sl_57 rfl (.d _)) ?_
    refine guardK h1 (fun g35 h1 => ?_)
    refine XL.put rfl rfl (lb rfl) (OpOK.makeO (α := Bool) (z := false) sl_75 z_4 rfl rfl el_4 rfl rfl g35 rfl (by repeat (first | exact CLs.nil | refine CLs.cons (by first | exact .refl _ | exact .sub (.app _ _ _) | exact .sub (.nil _)) ?_))) ?_
    refine XL.put rfl rfl (lb rfl) (OpOK.alloc z_75 rfl) <| XL.eff rfl rfl (OpOK.store ag_75 rfl rfl rfl rfl (lb rfl) rfl) <| XL.nil <| XQ.seq <| XC.seq <| XC.region <| XL.put rfl rfl (lb rfl) (OpOK.alloc z_106 rfl) <| XL.nil <| XQ.seq <| XC.seq <| XC.region <| rR rfl rfl rfl (RO.makeFunc3 rfl rfl rfl) <| XL.eff rfl rfl (OpOK.store ag_106 rfl rfl rfl rfl (lb rfl) rfl) <| XL.nil ?_
    refine XQ.seq <| XC.seq <| XC.seq <| XC.region <| rM rfl rfl rfl <| rR rfl rfl rfl (RO.lenE (α := Bs) sl_23 rfl (.d _)) <| rM rfl rfl rfl <| XL.nil <| XQ.seq <| XC.block ?_
    refine XC.joinX 0 (fun (o36 : (List Bool)) => ⟨[(8, .v (.one (.ptr 8 0)))], [(0, .cells 72 [dA 3 y1.1, .mp 1]), (1, .mp (gmE y1.2.1) y1.2.2), (4, .cells 72 [dA 3 y1.1, .mp 1]), (5, .cells 72 [dA 3 y1.1, .mp 1]), (6, .cells 57 [dS x30]), (7, .cells 4 (flatE o36)), (8, .cells 75 [.osl 7 0 ((x30.length : Int).toNat) ((x30.length : Int).toNat)]), (9, .cells 106 [.fn 56 [(8, 0), (6, 0), (9, 0)]])], [(3, some ⟨54, 1, (Enc.encL y1.1).length, []⟩)], 10, 38, []⟩) (fun (o36 : (List Bool)) => (some (.inr o36)) = some y34) ?_ ?_
    ·
     refine bindK h1 (fun o37 hl2 h1 => ?_)
     refine XC.loopM (m12_l4 a1 y1 x30) (fun s2 => ⟨[(3, .v (.one (.ptr 5 0))), (8, .v (.one (.ptr 8 0))), (9, .v (.one (.ptr 9 0))), (18, .v (.one (dS a1))), (19, .v (.one (dI (a1.length : Int)))), (20, .v (.one (dI s2.1)))], [(0, .cells 72 [dA 3 y1.1, .mp 1]), (1, .mp (gmE y1.2.1) y1.2.2), (4, .cells 72 [dA 3 y1.1, .mp 1]), (5, .cells 72 [dA 3 y1.1, .mp 1]), (6, .cells 57 [dS x30]), (7, .cells 4 (flatE s2.2)), (8, .cells 75 [.osl 7 0 ((x30.length : Int).toNat) ((x30.length : Int).toNat)]), (9, .cells 106 [.fn 56 [(8, 0), (6, 0), (9, 0)]])], [(3, some ⟨54, 1, (Enc.encL y1.1).length, []⟩)], 10, 38, []⟩) (0, (List.replicate (x30.length : Int).toNat false)) o37 (stle (tR rfl (tR rfl (tR rfl (tR rfl (tR rfl (tR rfl tZ)))))) (hR rfl (hR rfl (hR rfl (hR rfl (hR rfl (hR rfl (hR rfl (hR rfl hZ)))))))) (kR rfl kZ) rfl (Nat.le_trans hv1 (lb rfl)) rfl rfl rfl (bB rfl rfl (bG rfl (bB rfl rfl (bB rfl rfl (bB rfl rfl (bF rfl (bB rfl rfl (bB rfl rfl bZ)))))))) rfl rfl) hl2 (fun s2 n2 oo2 h2 ho2 => ?_)
     unfold m12_l4 at h2
     refine XC.seq <| XC.region <| rR rfl rfl rfl (RO.binInt rfl rfl rfl) <| XL.nil <| XQ.seq <| XC.seq ?_
     refine XC.cond (b := (decide (s2.1 < (a1.length : Int)))) rfl (fun c38 => ?_) (fun c38 => ?_)
     ·
      replace h2 := condT c38 h2
      refine XC.skip <| XQ.seq <| XC.seq <| XC.block <| XC.seq <| XC.region ?_
      refine bindK h2 (fun x39 hx39 h2 => ?_)
      refine rR rfl rfl rfl (RO.indexE (α := Bs) sl_23 rfl (.d _) rfl hx39) <| rR rfl rfl rfl (RO.loadPel ag_9 rfl rfl) <| rA rfl rfl rfl <| XL.nil <| XQ.seq <| XC.seq <| XC.region <| rR rfl rfl rfl (RO.fieldOwn fo_72_1 rfl) <| rR rfl rfl rfl (RO.loadOwn ag_70 rfl rfl rfl) <| rM rfl rfl rfl <| rR rfl rfl rfl (RO.lookupGT (M := y1.2) (k := x39) mp_70 zok_int rfl rfl rfl) <| rM rfl rfl rfl <| rR rfl rfl rfl (RO.extract rfl rfl) <| rR rfl rfl rfl (RO.extract rfl rfl) ?_
      refine rA rfl rfl rfl <| rA rfl rfl rfl <| XL.nil <| XQ.seq <| XC.seq <| XC.seq <| XC.region <| rM rfl rfl rfl <| rR rfl rfl rfl (RO.not rfl) <| XL.nil <| XQ.seq ?_
      refine XC.cond (b := (!(gmHas y1.2 x39))) rfl (fun c40 => ?_) (fun c40 => ?_)
      ·
       replace h2 := condT c40 h2
       refine XC.seq <| XC.region <| rA rfl rfl rfl <| rA rfl rfl rfl <| XL.nil <| XQ.seq <| XC.ret ?_
       have e_ := Option.some.inj h2
       subst e_
       have e_ : _ = _ := ho2
       subst e_
       try dsimp only [Sum.elim_inl, Sum.elim_inr] at h1
       have e_ := Option.some.inj h1
       subst e_
       exact hQ1 _ _ _ (.inr rfl) rfl (show StLe _ _ ⟨[(6, .v (.one (dN))), (7, .v (.one (dI 9)))], [(0, .cells 72 [dA 3 y1.1, .mp 1]), (1, .mp (gmE y1.2.1) y1.2.2), (4, .cells 72 [dA 3 y1.1, .mp 1])], [(3, some ⟨54, 1, (Enc.encL y1.1).length, []⟩)], 10, 38, []⟩ from (stle (tR rfl (tR rfl tZ)) (hR rfl (hR rfl (hR rfl hZ))) (kR rfl kZ) rfl (Nat.le_trans hv1 (lb rfl)) rfl rfl rfl (bB rfl rfl (bG rfl (bB rfl rfl bZ))) rfl rfl))
      ·
       replace h2 := condF c40 h2
       refine XC.skip <| XQ.seq <| XC.region <| rR rfl rfl rfl (RO.loadOwn ag_106 rfl rfl rfl) <| rM rfl rfl rfl ?_
       refine bindK h2 (fun x41 hx41 h2 => ?_)
       refine XL.put rfl rfl (lb rfl) (OpOK.callG (hp1' := [(8, .cells 75 [.osl 7 0 ((x30.length : Int).toNat) ((x30.length : Int).toNat)]), (7, .cells 4 (flatE x41)), (6, .cells 57 [dS x30]), (9, .cells 106 [.fn 56 [(8, 0), (6, 0), (9, 0)]])]) (tk1' := []) (hpF := [(0, .cells 72 [dA 3 y1.1, .mp 1]), (1, .mp (gmE y1.2.1) y1.2.2), (4, .cells 72 [dA 3 y1.1, .mp 1]), (5, .cells 72 [dA 3 y1.1, .mp 1])]) (tkF := [(3, some ⟨54, 1, (Enc.encL y1.1).length, []⟩)]) (res2 := resOf []) (nx2 := 10) [8, 7, 6, 9] rfl rfl (m56f12_ok (gmVal y1.2 x39) ((x30.length : Int).toNat) s2.2 x30 x41 hx41) rfl rfl (qB rfl rfl (qF rfl (qB rfl rfl (qB rfl rfl qZ)))) rfl rfl (gR rfl (gF rfl (gR rfl (gR rfl gZ)))) jZ (hR rfl (hR rfl (hR rfl (hR rfl hZ)))) (kR rfl kZ) rfl rfl rfl rfl rfl (bB rfl rfl (bF rfl (bB rfl rfl (bB rfl rfl bZ)))) rfl rfl rfl rfl) <| XL.nil <| XQ.inBlock <| XQ.seq <| XC.region <| rR rfl rfl rfl (RO.binInt rfl rfl rfl) <| rM rfl rfl rfl <| XL.nil ?_
       have e_ := Option.some.inj h2
       subst e_
       refine XQ.nextM ((w64 (s2.1 + 1)), x41) (stle (tR rfl (tR rfl (tR rfl (tR rfl (tR rfl (tR rfl tZ)))))) (hR rfl (hR rfl (hR rfl (hR rfl (hR rfl (hR rfl (hR rfl (hR rfl hZ)))))))) (kR rfl kZ) rfl (Nat.le_trans hv1 (lb rfl)) rfl rfl rfl (bB rfl rfl (bG rfl (bB rfl rfl (bB rfl rfl (bB rfl rfl (bF rfl (bB rfl rfl (bB rfl rfl bZ)))))))) rfl rfl) ho2
     ·
      replace h2 := condF c38 h2
      refine XC.exit <| XQ.thenE <| XQ.thenE ?_
      have e_ := Option.some.inj h2
      subst e_
      have e_ : _ = _ := ho2
      subst e_
      exact XQ.joinX s2.2 (stle (tR rfl tZ) (hR rfl (hR rfl (hR rfl (hR rfl (hR rfl (hR rfl (hR rfl (hR rfl hZ)))))))) (kR rfl kZ) rfl (Nat.le_trans hv1 (lb rfl)) rfl rfl rfl (bB rfl rfl (bG rfl (bB rfl rfl (bB rfl rfl (bB rfl rfl (bF rfl (bB rfl rfl (bB rfl rfl bZ)))))))) rfl rfl) h1
    ·
     intro o36 h1
     refine XQ.blockX <| XQ.seq <| XC.seq <| XC.region <| rR rfl rfl rfl (RO.loadOwn ag_75 rfl rfl rfl) <| rA rfl rfl rfl <| rA rfl rfl rfl <| XL.nil <| XQ.seq <| XC.ret ?_
     have e_ := Option.some.inj h1
     subst e_
     exact hQ1 _ _ _ (.inr rfl) rfl (show StLe _ _ ⟨[(6, .v (.one (.osl 7 0 ((x30.length : Int).toNat) ((x30.length : Int).toNat)))), (7, .v (.one (dI 0)))], [(0, .cells 72 [dA 3 y1.1, .mp 1]), (1, .mp (gmE y1.2.1) y1.2.2), (4, .cells 72 [dA 3 y1.1, .mp 1]), (7, .cells 4 (flatE o36))], [(3, some ⟨54, 1, (Enc.encL y1.1).length, []⟩)], 10, 38, []⟩ from (stle (tR rfl (tR rfl tZ)) (hR rfl (hR rfl (hR rfl (hR rfl hZ)))) (kR rfl kZ) rfl (Nat.le_trans hv1 (lb rfl)) rfl rfl rfl (bB rfl rfl (bG rfl (bB rfl rfl (bF rfl bZ)))) rfl rfl))
   refine sumK (C := fun q_ => CallM Try.prog 35 [.agg [dA 3 y1.1, .mp 1], .one (dS x30), .one (dS a1)] ⟨[(0, .cells 72 [dA 3 y1.1, .mp 1]), (1, .mp (gmE y1.2.1) y1.2.2), (4, .cells 72 [dA 3 y1.1, .mp 1])], [(3, some ⟨54, 1, (Enc.encL y1.1).length, []⟩)], 5⟩ (resOf (((Sum.elim (fun (y31 : Unit) => ([.one (dN), .one (dI 9)] : List AV)) (fun (y32 : (List Bool)) => ([.one (.osl 7 0 ((x30.length : Int).toNat) ((x30.length : Int).toNat)), .one (dI 0)] : List AV)))) q_)) ⟨(((Sum.elim (fun (y31 : Unit) => (⟨[(6, .v (.one (dN))), (7, .v (.one (dI 9)))], [(0, .cells 72 [dA 3 y1.1, .mp 1]), (1, .mp (gmE y1.2.1) y1.2.2), (4, .cells 72 [dA 3 y1.1, .mp 1])], [(3, some ⟨54, 1, (Enc.encL y1.1).length, []⟩)], 10, 38, []⟩ : St)) (fun (y32 : (List Bool)) => (⟨[(6, .v (.one (.osl 7 0 ((x30.length : Int).toNat) ((x30.length : Int).toNat)))), (7, .v (.one (dI 0)))], [(0, .cells 72 [dA 3 y1.1, .mp 1]), (1, .mp (gmE y1.2.1) y1.2.2), (4, .cells 72 [dA 3 y1.1, .mp 1]), (7, .cells 4 (flatE y32))], [(3, some ⟨54, 1, (Enc.encL y1.1).length, []⟩)], 10, 38, []⟩ : St)))) q_).hp, (((Sum.elim (fun (y31 : Unit) => (⟨[(6, .v (.one (dN))), (7, .v (.one (dI 9)))], [(0, .cells 72 [dA 3 y1.1, .mp 1]), (1, .mp (gmE y1.2.1) y1.2.2), (4, .cells 72 [dA 3 y1.1, .mp 1])], [(3, some ⟨54, 1, (Enc.encL y1.1).length, []⟩)], 10, 38, []⟩ : St)) (fun (y32 : (List Bool)) => (⟨[(6, .v (.one (.osl 7 0 ((x30.length : Int).toNat) ((x30.length : Int).toNat)))), (7, .v (.one (dI 0)))], [(0, .cells 72 [dA 3 y1.1, .mp 1]), (1, .mp (gmE y1.2.1) y1.2.2), (4, .cells 72 [dA 3 y1.1, .mp 1]), (7, .cells 4 (flatE y32))], [(3, some ⟨54, 1, (Enc.encL y1.1).length, []⟩)], 10, 38, []⟩ : St)))) q_).tk, (((Sum.elim (fun (y31 : Unit) => (⟨[(6, .v (.one (dN))), (7, .v (.one (dI 9)))], [(0, .cells 72 [dA 3 y1.1, .mp 1]), (1, .mp (gmE y1.2.1) y1.2.2), (4, .cells 72 [dA 3 y1.1, .mp 1])], [(3, some ⟨54, 1, (Enc.encL y1.1).length, []⟩)], 10, 38, []⟩ : St)) (fun (y32 : (List Bool)) => (⟨[(6, .v (.one (.osl 7 0 ((x30.length : Int).toNat) ((x30.length : Int).toNat)))), (7, .v (.one (dI 0)))], [(0, .cells 72 [dA 3 y1.1, .mp 1]), (1, .mp (gmE y1.2.1) y1.2.2), (4, .cells 72 [dA 3 y1.1, .mp 1]), (7, .cells 4 (flatE y32))], [(3, some ⟨54, 1, (Enc.encL y1.1).length, []⟩)], 10, 38, []⟩ : St)))) q_).nx⟩) hc33 h0 (fun y31 hc33 h0 => ?_) (fun y32 hc33 h0 => ?_)
   ·
    replace hc33 : CallM Try.prog 35 [.agg [dA 3 y1.1, .mp 1], .one (dS x30), .one (dS a1)] ⟨[(0, .cells 72 [dA 3 y1.1, .mp 1]), (1, .mp (gmE y1.2.1) y1.2.2), (4, .cells 72 [dA 3 y1.1, .mp 1])], [(3, some ⟨54, 1, (Enc.encL y1.1).length, []⟩)], 5⟩ (resOf [.one (dN), .one (dI 9)]) ⟨[(0, .cells 72 [dA 3 y1.1, .mp 1]), (1, .mp (gmE y1.2.1) y1.2.2), (4, .cells 72 [dA 3 y1.1, .mp 1])], [(3, some ⟨54, 1, (Enc.encL y1.1).length, []⟩)], 10⟩ := hc33
    refine RunA.eff rfl rfl rfl (OpOK.callW rfl rfl rfl hc33 rfl (hR rfl (hR rfl (hR rfl hZ))) (kR rfl kZ)) rfl <| RunA.rd rfl rfl rfl (OpOK.of_ro (RO.move rfl)) rfl <| RunA.rd rfl rfl rfl (OpOK.of_ro (RO.extract rfl rfl)) rfl <| RunA.rd rfl rfl rfl (OpOK.of_ro (RO.extract rfl rfl)) rfl <| RunA.rd rfl rfl rfl (OpOK.of_ro (RO.assign rfl)) rfl <| RunA.rd rfl rfl rfl (OpOK.of_ro (RO.assign rfl)) rfl ?_
    refine RunA.nil ⟨?ex, _, _, rfl, ?_⟩
    case ex => exact trivial
    refine XQ.less (st' := ⟨[(0, .v (.one (dS a0))), (7, .v (.one (dI 9))), (8, .v (.one (dN)))], [(0, .cells 72 [dA 3 y1.1, .mp 1]), (1, .mp (gmE y1.2.1) y1.2.2), (4, .cells 72 [dA 3 y1.1, .mp 1])], [(3, some ⟨54, 1, (Enc.encL y1.1).length, []⟩)], 10, 49, []⟩) (stle (tR rfl (tR rfl (tR rfl tZ))) (hR rfl (hR rfl (hR rfl hZ))) (kR rfl kZ) rfl (Nat.zero_le _) rfl rfl rfl (bB rfl rfl (bG rfl (bB rfl rfl bZ))) rfl rfl) <| XQ.seq <| XC.seq <| XC.seq <| XC.region <| rM rfl rfl rfl <| rR rfl rfl rfl (RO.binInt rfl rfl rfl) <| XL.nil <| XQ.seq ?_
    refine XC.cond rfl (fun _ => ?_) (fun h => nomatch h)
    refine XC.seq <| XC.region <| rM rfl rfl rfl <| rA rfl rfl rfl <| rA rfl rfl rfl <| XL.nil <| XQ.seq <| XC.ret ?_
    have e_ := Option.some.inj h0
    subst e_
    exact XQ.retF (fun _ _ h => h) rfl (RAs.tmp rfl (RAs.tmp rfl .nil)) (.cons (.one (.nil _)) (.cons (.one (.d _)) .nil))
   ·
    replace hc33 : CallM Try.prog 35 [.agg [dA 3 y1.1, .mp 1], .one (dS x30), .one (dS a1)] ⟨[(0, .cells 72 [dA 3 y1.1, .mp 1]), (1, .mp (gmE y1.2.1) y1.2.2), (4, .cells 72 [dA 3 y1.1, .mp 1])], [(3, some ⟨54, 1, (Enc.encL y1.1).length, []⟩)], 5⟩ (resOf [.one (.osl 7 0 ((x30.length : Int).toNat) ((x30.length : Int).toNat)), .one (dI 0)]) ⟨[(0, .cells 72 [dA 3 y1.1, .mp 1]), (1, .mp (gmE y1.2.1) y1.2.2), (4, .cells 72 [dA 3 y1.1, .mp 1]), (7, .cells 4 (flatE y32))], [(3, some ⟨54, 1, (Enc.encL y1.1).length, []⟩)], 10⟩ := hc33
    refine RunA.eff rfl rfl rfl (OpOK.callW rfl rfl rfl hc33 rfl (hR rfl (hR rfl (hR rfl hZ))) (kR rfl kZ)) rfl <| RunA.rd rfl rfl rfl (OpOK.of_ro (RO.move rfl)) rfl <| RunA.rd rfl rfl rfl (OpOK.of_ro (RO.extract rfl rfl)) rfl <| RunA.rd rfl rfl rfl (OpOK.of_ro (RO.extract rfl rfl)) rfl <| RunA.rd rfl rfl rfl (OpOK.of_ro (RO.assign rfl)) rfl <| RunA.rd rfl rfl rfl (OpOK.of_ro (RO.assign rfl)) rfl ?_
    refine RunA.nil ⟨?ex, _, _, rfl, ?_⟩
    case ex => exact trivial
    refine XQ.less (st' := ⟨[(0, .v (.one (dS a0))), (7, .v (.one (dI 0))), (8, .v (.one (.osl 7 0 ((x30.length : Int).toNat) ((x30.length : Int).toNat))))], [(0, .cells 72 [dA 3 y1.1, .mp 1]), (1, .mp (gmE y1.2.1) y1.2.2), (4, .cells 72 [dA 3 y1.1, .mp 1]), (7, .cells 4 (flatE y32))], [(3, some ⟨54, 1, (Enc.encL y1.1).length, []⟩)], 10, 49, []⟩) (stle (tR rfl (tR rfl (tR rfl tZ))) (hR rfl (hR rfl (hR rfl (hR rfl hZ)))) (kR rfl kZ) rfl (Nat.zero_le _) rfl rfl rfl (bB rfl rfl (bG rfl (bB rfl rfl (bF rfl bZ)))) rfl rfl) <| XQ.seq <| XC.seq <| XC.seq <| XC.region <| rM rfl rfl rfl <| rR rfl rfl rfl (RO.binInt rfl rfl rfl) <| XL.nil <| XQ.seq ?_
    refine XC.cond rfl (fun h => nomatch h) (fun _ => ?_)
    refine XC.skip <| XQ.seq <| XC.seq <| XC.region <| rA rfl rfl rfl <| XL.nil <| XQ.seq <| XC.seq <| XC.seq <| XC.region <| rM rfl rfl rfl <| rR rfl rfl rfl (RO.lenE (α := Dcl) sl_22 rfl (.d _)) <| rM rfl rfl rfl <| XL.nil ?_
    refine XQ.seq <| XC.block ?_
    refine XC.joinX 0 (fun (o42 : (List Bs)) => ⟨[(9, .v (.one (dA 10 o42)))], [(0, .cells 72 [dA 3 y1.1, .mp 1]), (1, .mp (gmE y1.2.1) y1.2.2), (4, .cells 72 [dA 3 y1.1, .mp 1]), (7, .cells 4 (flatE y32))], [(3, some ⟨54, 1, (Enc.encL y1.1).length, []⟩), (10, some ⟨9, 1, (Enc.encL o42).length, []⟩)], 11, 49, []⟩) (fun (o42 : (List Bs)) => (some (o42, 0)) = some r) ?_ ?_
    ·
     refine XC.adoptT (t := 9) 9 1 rfl ?_
     refine bindK h0 (fun o43 hl1 h0 => ?_)
     refine XC.loopM (m12_l5 a0 y32 x30) (fun s1 => ⟨[(8, .v (.one (.osl 7 0 ((x30.length : Int).toNat) ((x30.length : Int).toNat)))), (9, .v (.one (dA 10 s1.1))), (32, .v (.one (dS a0))), (33, .v (.one (dI (a0.length : Int)))), (34, .v (.one (dI s1.2)))], [(0, .cells 72 [dA 3 y1.1, .mp 1]), (1, .mp (gmE y1.2.1) y1.2.2), (4, .cells 72 [dA 3 y1.1, .mp 1]), (7, .cells 4 (flatE y32))], [(3, some ⟨54, 1, (Enc.encL y1.1).length, []⟩), (10, some ⟨9, 1, (Enc.encL s1.1).length, []⟩)], 11, 49, []⟩) (([] : List Bs), 0) o43 (stle (tR rfl (tR rfl (tR rfl (tR rfl (tR rfl tZ))))) (hR rfl (hR rfl (hR rfl (hR rfl hZ)))) (kR rfl (kR rfl kZ)) rfl (Nat.zero_le _) rfl rfl rfl (bB rfl rfl (bG rfl (bB rfl rfl (bF rfl bZ)))) rfl rfl) hl1 (fun s1 n1 oo1 h1 ho1 => ?_)
     unfold m12_l5 at h1
     refine XC.seq <| XC.region <| rR rfl rfl rfl (RO.binInt rfl rfl rfl) <| XL.nil <| XQ.seq <| XC.seq ?_
     refine XC.cond (b := (decide (s1.2 < (a0.length : Int)))) rfl (fun c44 => ?_) (fun c44 => ?_)
     ·
      replace h1 := condT c44 h1
      refine XC.skip <| XQ.seq <| XC.seq <| XC.block <| XC.seq <| XC.region <| rM rfl rfl rfl ?_
      refine bindK h1 (fun x45 hx45 h1 => ?_)
      refine rR rfl rfl rfl (RO.indexE (α := Dcl) sl_22 rfl (.d _) rfl hx45) <| rR rfl rfl rfl (RO.loadPelCE (x45 : Dcl) ag_48 rfl) <| XL.put rfl rfl (lb rfl) (OpOK.alloc z_48 rfl) <| rA rfl rfl rfl <| XL.eff rfl rfl (OpOK.storeCE (x45 : Dcl) ag_48 rfl rfl rfl rfl rfl) <| XL.nil <| XQ.seq <| XC.seq <| XC.region <| rM rfl rfl rfl <| rM rfl rfl rfl ?_
      refine bindK h1 (fun x46 hx46 h1 => ?_)
      refine guardK h1 (fun g47 h1 => ?_)
      refine rR rfl rfl rfl (RO.indexO (α := Bool) sl_75 rfl rfl hx46 g47) <| rR rfl rfl rfl (RO.loadOF (α := Bool) (m := s1.2) (f := 0) ag_4 rfl rfl hx46 rfl) <| XL.nil <| XQ.seq ?_
      refine XC.cond (b := x46) rfl (fun c48 => ?_) (fun c48 => ?_)
      ·
       replace h1 := condT c48 h1
       refine XC.region <| rM rfl rfl rfl <| rR rfl rfl rfl (RO.loadCE (x45 : Dcl) ag_48 rfl rfl) ?_
       refine bindK h1 (fun x49 hx49 h1 => ?_)
       refine XL.put rfl rfl (lb rfl) (OpOK.callFun (m37_ok x45 x49 hx49) rfl (.cons (.agg (.cons (.d _) (.cons (.d _) (.cons (.d _) (.cons (.d _) (.cons (.d _) (.cons (.d _) (.cons (.d _) (.cons (.d _) (.cons (.d _) (.cons (.d _) (.cons (.d _) (.cons (.d _) (.cons (.d _) (.cons (.d _) (.cons (.d _) (.cons (.d _) (.cons (.d _) (.cons (.d _) (.cons (.d _) (.cons (.d _) (.cons (.d _) (.cons (.d _) (.cons (.d _) .nil)))))))))))))))))))))))) .nil)) ?_
       refine guardK h1 (fun g50 h1 => ?_)
       refine XL.put rfl rfl (lb rfl) (OpOK.appendE (α := Bs) sl_23 el_9 rfl rfl rfl rfl rfl (.d _) g50) <| rA rfl rfl rfl <| XL.nil <| XQ.inBlock <| XQ.seq <| XC.region <| rR rfl rfl rfl (RO.binInt rfl rfl rfl) <| rM rfl rfl rfl <| XL.nil ?_
       have e_ := Option.some.inj h1
       subst e_
       refine XQ.nextM ((s1.1 ++ x49), (w64 (s1.2 + 1))) (stle (tR rfl (tR rfl (tR rfl (tR rfl (tR rfl tZ))))) (hR rfl (hR rfl (hR rfl (hR rfl hZ)))) (kR rfl (kR rfl kZ)) rfl (Nat.zero_le _) rfl rfl rfl (bB rfl rfl (bG rfl (bB rfl rfl (bF rfl bZ)))) rfl rfl) ho1
      ·
       replace h1 := condF c48 h1
       refine XC.skip <| XQ.inBlock <| XQ.seq <| XC.region <| rR rfl rfl rfl (RO.binInt rfl rfl rfl) <| rM rfl rfl rfl <| XL.nil ?_
       have e_ := Option.some.inj h1
       subst e_
       refine XQ.nextM (s1.1, (w64 (s1.2 + 1))) (stle (tR rfl (tR rfl (tR rfl (tR rfl (tR rfl tZ))))) (hR rfl (hR rfl (hR rfl (hR rfl hZ)))) (kR rfl (kR rfl kZ)) rfl (Nat.zero_le _) rfl rfl rfl (bB rfl rfl (bG rfl (bB rfl rfl (bF rfl bZ)))) rfl rfl) ho1
     ·
      replace h1 := condF c44 h1
      refine XC.exit <| XQ.thenE <| XQ.thenE ?_
      have e_ := Option.some.inj h1
      subst e_
      have e_ : _ = _ := ho1
      subst e_
      exact XQ.joinX s1.1 (stle (tR rfl tZ) (hR rfl (hR rfl (hR rfl (hR rfl hZ)))) (kR rfl (kR rfl kZ)) rfl (Nat.zero_le _) rfl rfl rfl (bB rfl rfl (bG rfl (bB rfl rfl (bF rfl bZ)))) rfl rfl) h0
    ·
     intro o42 h0
     refine XQ.blockX <| XQ.seq <| XC.seq <| XC.region <| rM rfl rfl rfl <| rA rfl rfl rfl <| rA rfl rfl rfl <| XL.nil <| XQ.seq <| XC.ret ?_
     have e_ := Option.some.inj h0
     subst e_
     exact XQ.retF (fun _ _ h => h) rfl (RAs.tmp rfl (RAs.tmp rfl .nil)) (.cons (.one (.app _ _ _)) (.cons (.one (.d _)) .nil))
  ·
   replace hc4 : CallM Try.prog 34 [.one (dS a0)] ⟨[], [], 0⟩ (resOf [.agg [dN, .d (.v (.map none))], .one (dI 8)]) ⟨[(0, .cells 72 [dN, .d (.v (.map none))])], [], 4⟩ := hc4
   refine XL.put rfl rfl (lb rfl) (OpOK.callW rfl rfl rfl hc4 rfl hZ kZ) <| rM rfl rfl rfl <| rR rfl rfl rfl (RO.extract rfl rfl) <| rR rfl rfl rfl (RO.extract rfl rfl) <| XL.put rfl rfl (lb rfl) (OpOK.alloc z_72 rfl) <| XL.eff rfl rfl (OpOK.store ag_72 rfl rfl rfl rfl (lb rfl) rfl) <| rA rfl rfl rfl <| XL.nil <| XQ.seq <| XC.seq <| XC.seq <| XC.region <| rM rfl rfl rfl <| rR rfl rfl rfl (RO.binInt rfl rfl rfl) ?_
   refine XL.nil <| XQ.seq ?_
   refine XC.cond rfl (fun _ => ?_) (fun h => nomatch h)
   refine XC.seq <| XC.region <| rM rfl rfl rfl <| rA rfl rfl rfl <| rA rfl rfl rfl <| XL.nil <| XQ.seq <| XC.ret ?_
   have e_ := Option.some.inj h0
   subst e_
   exact XQ.retF (fun _ _ h => h) rfl (RAs.tmp rfl (RAs.tmp rfl .nil)) (.cons (.one (.nil _)) (.cons (.one (.d _)) .nil))
  ·
   replace hc4 : CallM Try.prog 34 [.one (dS a0)] ⟨[], [], 0⟩ (resOf [.agg [dN, .d (.v (.map none))], .one (dI 9)]) ⟨[(0, .cells 72 [dN, .d (.v (.map none))])], [], 6⟩ := hc4
   refine XL.put rfl rfl (lb rfl) (OpOK.callW rfl rfl rfl hc4 rfl hZ kZ) <| rM rfl rfl rfl <| rR rfl rfl rfl (RO.extract rfl rfl) <| rR rfl rfl rfl (RO.extract rfl rfl) <| XL.put rfl rfl (lb rfl) (OpOK.alloc z_72 rfl) <| XL.eff rfl rfl (OpOK.store ag_72 rfl rfl rfl rfl (lb rfl) rfl) <| rA rfl rfl rfl <| XL.nil <| XQ.seq <| XC.seq <| XC.seq <| XC.region <| rM rfl rfl rfl <| rR rfl rfl rfl (RO.binInt rfl rfl rfl) ?_
   refine XL.nil <| XQ.seq ?_
   refine XC.cond rfl (fun _ => ?_) (fun h => nomatch h)
   refine XC.seq <| XC.region <| rM rfl rfl rfl <| rA rfl rfl rfl <| rA rfl rfl rfl <| XL.nil <| XQ.seq <| XC.ret ?_
   have e_ := Option.some.inj h0
   subst e_
   exact XQ.retF (fun _ _ h => h) rfl (RAs.tmp rfl (RAs.tmp rfl .nil)) (.cons (.one (.nil _)) (.cons (.one (.d _)) .nil))
end Go.Proofs.Ytijcchddnnnmdaa
namespace Go.Proofs.Ytijcchddnnnmdaa
open Go.RowKit Go.Shelf
set_option linter.unusedSimpArgs false
set_option linter.unusedVariables false
theorem el_48 : tyElem Try.prog 48 = some (23, 360) := by kernel_rfl
theorem en_13 : Enters Try.prog 13 := enters_of Try.func13 (by kernel_rfl) rfl
theorem en_38 : Enters Try.prog 38 := enters_of Try.func38 (by kernel_rfl) rfl
theorem en_39 : Enters Try.prog 39 := enters_of Try.func39 (by kernel_rfl) rfl
def m39f13_l0 (a0 : List (List Int)) (s2 : (List Bool) × Int) (a2 : Bool) (a1 : List Bool) (s3 : (List Bool) × Int) : Option (LO ((List Bool) × Int) (((List Bool)))) :=
  Option.bind (idx a0 s2.2) fun (x6 : List Int) =>
  cond (decide (s3.2 < (x6.length : Int)))
    (Option.bind (idx a0 s2.2) fun (x8 : List Int) =>
  Option.bind (idx x8 s3.2) fun (x9 : Int) =>
  Option.bind (cond a2
    (Option.bind (idx s3.1 x9) fun (x12 : Bool) =>
  guardO (Nat.beq (Enc.encL s3.1).length ((Enc.encL a1).length))
  (some x12))
    (some false)) (fun (v10 : Bool) => Option.bind (cond v10
    (Option.bind (idx s3.1 s2.2) fun (x13 : Bool) =>
  guardO (Nat.beq (Enc.encL s3.1).length ((Enc.encL a1).length))
  (some (s3.1.set s2.2.toNat true)))
    (some s3.1)) (fun (v11 : (List Bool)) => Option.bind (cond (!a2)
    (Option.bind (idx v11 s2.2) fun (x14 : Bool) =>
  guardO (Nat.beq (Enc.encL v11).length ((Enc.encL a1).length))
  (some x14))
    (some false)) (fun (v12 : Bool) => cond v12
    (Option.bind (idx v11 x9) fun (x14 : Bool) =>
  guardO (Nat.beq (Enc.encL v11).length ((Enc.encL a1).length))
  (some (.next ((v11.set x9.toNat true), (w64 (s3.2 + 1))))))
    (some (.next (v11, (w64 (s3.2 + 1)))))))))
    (some (.done s3.1))
def m39f13_l1 (a0 : List (List Int)) (a2 : Bool) (a1 : List Bool) (s2 : (List Bool) × Int) : Option (LO ((List Bool) × Int) (((List Bool)))) :=
  cond (decide (s2.2 < (a0.length : Int)))
    (Option.bind (loopN (m39f13_l0 a0 s2 a2 a1) FUEL (s2.1, 0)) (fun (o5 : (List Bool)) => some (.next (o5, (w64 (s2.2 + 1))))))
    (some (.done s2.1))
def m39f13_l2 (a0 : List (List Int)) (a2 : Bool) (a1 : List Bool) (s1 : (List Bool) × Int) : Option (LO ((List Bool) × Int) (((List Bool)))) :=
  cond (decide (s1.2 < (a0.length : Int)))
    (Option.bind (loopN (m39f13_l1 a0 a2 a1) FUEL (s1.1, 0)) (fun (o3 : (List Bool)) => some (.next (o3, (w64 (s1.2 + 1))))))
    (some (.done s1.1))
def m39f13 (a0 : List (List Int)) (a1 : List Bool) (a2 : Bool) : Option ((List Bool)) :=
  Option.bind (loopN (m39f13_l2 a0 a2 a1) FUEL (a1, 0)) (fun (o1 : (List Bool)) => guardO (Nat.beq (Enc.encL o1).length ((Enc.encL a1).length))
  (some o1))
set_option maxRecDepth 100000 in
set_option maxHeartbeats 2000000 in
theorem m39f13_ok (a0 : List (List Int)) (a1 : List Bool) (a2 : Bool) (r : (List Bool)) (h0 : m39f13 a0 a1 a2 = some r) : CallM Try.prog 39 [.one (dS a0), .one (.apv 0 1 ((Enc.encL a1).length) []), .one (dB a2)] ⟨[], [(0, some ⟨4, 1, (Enc.encL a1).length, (Enc.encL a1).flatten⟩)], 1⟩ (resOf [.one (.apv 0 1 ((Enc.encL r).length) [])]) ⟨[], [(0, some ⟨4, 1, (Enc.encL r).length, (Enc.encL r).flatten⟩)], 1⟩ := by
  unfold m39f13 at h0
  refine CallM.of_bodyD ⟨[(6, .v (.one (.apv 0 1 ((Enc.encL r).length) [])))], [], [(0, some ⟨4, 1, (Enc.encL r).length, (Enc.encL r).flatten⟩)], 1, 59, []⟩ rfl rfl en_39 (lb rfl) rfl (RAs.tmp rfl .nil) (fun w0 M V0 Q hv0 hQ0 => ?_)
  simp only [entry]
  refine XC.seq <| XC.region <| rA rfl rfl rfl <| XL.nil <| XQ.seq <| XC.seq <| XC.seq <| XC.region <| rM rfl rfl rfl <| rR rfl rfl rfl (RO.lenE (α := List Int) sl_57 rfl (.d _)) <| rM rfl rfl rfl <| XL.nil <| XQ.seq <| XC.block ?_
  refine XC.joinX 0 (fun (o1 : (List Bool)) => ⟨[(1, .v (.one (.apv 0 1 ((Enc.encL a1).length) [])))], [], [(0, some ⟨4, 1, (Enc.encL a1).length, (Enc.encL o1).flatten⟩)], 1, 59, []⟩) (fun (o1 : (List Bool)) => (guardO (Nat.beq (Enc.encL o1).length ((Enc.encL a1).length))
    (some o1)) = some r) ?_ ?_
  ·
   refine bindK h0 (fun o2 hl1 h0 => ?_)
   refine XC.loopM (m39f13_l2 a0 a2 a1) (fun s1 => ⟨[(0, .v (.one (dS a0))), (1, .v (.one (.apv 0 1 ((Enc.encL a1).length) []))), (2, .v (.one (dB a2))), (11, .v (.one (dI (a0.length : Int)))), (12, .v (.one (dI s1.2)))], [], [(0, some ⟨4, 1, (Enc.encL a1).length, (Enc.encL s1.1).flatten⟩)], 1, 59, []⟩) (a1, 0) o2 (stle (tR rfl (tR rfl (tR rfl (tR rfl (tR rfl tZ))))) hZ (kR rfl kZ) rfl (Nat.le_trans hv0 (lb rfl)) rfl rfl rfl bZ rfl rfl) hl1 (fun s1 n1 oo1 h1 ho1 => ?_)
   unfold m39f13_l2 at h1
   refine XC.seq <| XC.region <| rR rfl rfl rfl (RO.binInt rfl rfl rfl) <| XL.nil <| XQ.seq <| XC.seq ?_
   refine XC.cond (b := (decide (s1.2 < (a0.length : Int)))) rfl (fun c3 => ?_) (fun c3 => ?_)
   ·
    replace h1 := condT c3 h1
    refine XC.skip <| XQ.seq <| XC.seq <| XC.block <| XC.seq <| XC.region <| rA rfl rfl rfl <| XL.nil <| XQ.seq <| XC.block ?_
    refine XC.joinX 2 (fun (o4 : (List Bool)) => ⟨[(0, .v (.one (dS a0))), (1, .v (.one (.apv 0 1 ((Enc.encL a1).length) []))), (2, .v (.one (dB a2))), (11, .v (.one (dI (a0.length : Int)))), (12, .v (.one (dI s1.2)))], [], [(0, some ⟨4, 1, (Enc.encL a1).length, (Enc.encL o4).flatten⟩)], 1, 59, []⟩) (fun (o4 : (List Bool)) => (some (.next (o4, (w64 (s1.2 + 1))))) = some oo1) ?_ ?_
    ·
     refine bindK h1 (fun o5 hl2 h1 => ?_)
     refine XC.loopM (m39f13_l1 a0 a2 a1) (fun s2 => ⟨[(0, .v (.one (dS a0))), (1, .v (.one (.apv 0 1 ((Enc.encL a1).length) []))), (2, .v (.one (dB a2))), (7, .v (.one (dI s2.2))), (11, .v (.one (dI (a0.length : Int)))), (12, .v (.one (dI s1.2)))], [], [(0, some ⟨4, 1, (Enc.encL a1).length, (Enc.encL s2.1).flatten⟩)], 1, 59, []⟩) (s1.1, 0) o5 (stle (tR rfl (tR rfl (tR rfl (tR rfl (tR rfl (tR rfl tZ)))))) hZ (kR rfl kZ) rfl (Nat.le_trans hv0 (lb rfl)) rfl rfl rfl bZ rfl rfl) hl2 (fun s2 n2 oo2 h2 ho2 => ?_)
     unfold m39f13_l1 at h2
     refine XC.seq <| XC.seq <| XC.region <| rM rfl rfl rfl <| rM rfl rfl rfl <| rR rfl rfl rfl (RO.lenE (α := List Int) sl_57 rfl (.d _)) <| rR rfl rfl rfl (RO.binInt rfl rfl rfl) <| XL.nil <| XQ.seq ?_
     refine XC.cond (b := (decide (s2.2 < (a0.length : Int)))) rfl (fun c6 => ?_) (fun c6 => ?_)
     ·
      replace h2 := condT c6 h2
      refine XC.skip <| XQ.seq <| XC.seq <| XC.block <| XC.seq <| XC.region <| rA rfl rfl rfl <| XL.nil <| XQ.seq <| XC.block ?_
      refine XC.joinX 4 (fun (o7 : (List Bool)) => ⟨[(0, .v (.one (dS a0))), (1, .v (.one (.apv 0 1 ((Enc.encL a1).length) []))), (2, .v (.one (dB a2))), (7, .v (.one (dI s2.2))), (11, .v (.one (dI (a0.length : Int)))), (12, .v (.one (dI s1.2)))], [], [(0, some ⟨4, 1, (Enc.encL a1).length, (Enc.encL o7).flatten⟩)], 1, 59, []⟩) (fun (o7 : (List Bool)) => (some (.next (o7, (w64 (s2.2 + 1))))) = some oo2) ?_ ?_
      ·
       refine bindK h2 (fun o8 hl3 h2 => ?_)
       refine XC.loopM (m39f13_l0 a0 s2 a2 a1) (fun s3 => ⟨[(0, .v (.one (dS a0))), (1, .v (.one (.apv 0 1 ((Enc.encL a1).length) []))), (2, .v (.one (dB a2))), (7, .v (.one (dI s2.2))), (8, .v (.one (dI s3.2))), (11, .v (.one (dI (a0.length : Int)))), (12, .v (.one (dI s1.2)))], [], [(0, some ⟨4, 1, (Enc.encL a1).length, (Enc.encL s3.1).flatten⟩)], 1, 59, []⟩) (s2.1, 0) o8 (stle (tR rfl (tR rfl (tR rfl (tR rfl (tR rfl (tR rfl (tR rfl tZ))))))) hZ (kR rfl kZ) rfl (Nat.le_trans hv0 (lb rfl)) rfl rfl rfl bZ rfl rfl) hl3 (fun s3 n3 oo3 h3 ho3 => ?_)
       unfold m39f13_l0 at h3
       refine XC.seq <| XC.seq <| XC.region <| rM rfl rfl rfl <| rM rfl rfl rfl <| rM rfl rfl rfl ?_
       refine bindK h3 (fun x9 hx9 h3 => ?_)
       refine rR rfl rfl rfl (RO.indexE (α := List Int) sl_57 rfl (.d _) rfl hx9) <| rR rfl rfl rfl (RO.loadPel ag_54 rfl rfl) <| rR rfl rfl rfl (RO.lenE (α := Int) sl_54 rfl (.d _)) <| rR rfl rfl rfl (RO.binInt rfl rfl rfl) <| XL.nil <| XQ.seq ?_
       refine XC.cond (b := (decide (s3.2 < (x9.length : Int)))) rfl (fun c10 => ?_) (fun c10 => ?_)
       ·
        replace h3 := condT c10 h3
        refine XC.skip <| XQ.seq <| XC.seq <| XC.block <| XC.seq <| XC.region <| rM rfl rfl rfl <| rM rfl rfl rfl ?_
        refine bindK h3 (fun x11 hx11 h3 => ?_)
        refine rR rfl rfl rfl (RO.indexE (α := List Int) sl_57 rfl (.d _) rfl hx11) <| rR rfl rfl rfl (RO.loadPel ag_54 rfl rfl) <| rM rfl rfl rfl ?_
        refine bindK h3 (fun x12 hx12 h3 => ?_)
        refine rR rfl rfl rfl (RO.indexE (α := Int) sl_54 rfl (.d _) rfl hx12) <| rR rfl rfl rfl (RO.loadPel ag_3 rfl rfl) <| rA rfl rfl rfl <| XL.nil <| XQ.seq <| XC.seq <| XC.seq ?_
        refine XC.joinR (fun (v13 : Bool) => ⟨[(0, .v (.one (dS a0))), (1, .v (.one (.apv 0 1 ((Enc.encL a1).length) []))), (2, .v (.one (dB a2))), (7, .v (.one (dI s2.2))), (8, .v (.one (dI s3.2))), (9, .v (.one (dI x12))), (11, .v (.one (dI (a0.length : Int)))), (12, .v (.one (dI s1.2))), (42, .v (.one (dB v13)))], [], [(0, some ⟨4, 1, (Enc.encL a1).length, (Enc.encL s3.1).flatten⟩)], 1, 59, []⟩) (fun (v13 : Bool) => (Option.bind (cond v13
            (Option.bind (idx s3.1 s2.2) fun (x16 : Bool) =>
          guardO (Nat.beq (Enc.encL s3.1).length ((Enc.encL a1).length))
          (some (s3.1.set s2.2.toNat true)))
            (some s3.1)) (fun (v14 : (List Bool)) => Option.bind (cond (!a2)
            (Option.bind (idx v14 s2.2) fun (x17 : Bool) =>
          guardO (Nat.beq (Enc.encL v14).length ((Enc.encL a1).length))
          (some x17))
            (some false)) (fun (v15 : Bool) => cond v15
            (Option.bind (idx v14 x12) fun (x17 : Bool) =>
          guardO (Nat.beq (Enc.encL v14).length ((Enc.encL a1).length))
          (some (.next ((v14.set x12.toNat true), (w64 (s3.2 + 1))))))
            (some (.next (v14, (w64 (s3.2 + 1)))))))) = some oo3) ?_ ?_
        ·
         refine bindK h3 (fun w4_ h4 h3 => ?_)
         refine XC.region <| rM rfl rfl rfl <| rM rfl rfl rfl ?_
         refine XL.case (d := 37) (c := a2) rfl (fun c14 => ?_) (fun c14 => ?_)
         ·
          replace h4 := condT c14 h4
          refine rM rfl rfl rfl <| rM rfl rfl rfl ?_
          refine bindK h4 (fun x15 hx15 h4 => ?_)
          refine guardK h4 (fun g16 h4 => ?_)
          refine rR rfl rfl rfl (RO.indexPv (α := Bool) (l := s3.1) sl_75 rfl rfl rfl hx15 g16) <| rR rfl rfl rfl (RO.loadPv (α := Bool) (l := s3.1) (v := x15) ag_4 rfl rfl hx15 g16 rfl) <| rR rfl rfl rfl (RO.pickT rfl rfl) <| XL.nil ?_
          have e_ := Option.some.inj h4
          subst e_
          exact XQ.joinR x15 (stle (tR rfl (tR rfl (tR rfl (tR rfl (tR rfl (tR rfl (tR rfl (tR rfl (tR rfl tZ))))))))) hZ (kR rfl kZ) rfl (Nat.le_trans hv0 (lb rfl)) rfl rfl rfl bZ rfl rfl) h3
         ·
          replace h4 := condF c14 h4
          refine XL.no rfl rfl <| XL.no rfl rfl <| XL.no rfl rfl <| XL.no rfl rfl <| rR rfl rfl rfl (RO.pickF rfl rfl) <| XL.nil ?_
          have e_ := Option.some.inj h4
          subst e_
          exact XQ.joinR false (stle (tR rfl (tR rfl (tR rfl (tR rfl (tR rfl (tR rfl (tR rfl (tR rfl (tR rfl tZ))))))))) hZ (kR rfl kZ) rfl (Nat.le_trans hv0 (lb rfl)) rfl rfl rfl bZ rfl rfl) h3
        ·
         intro v13 h3
         refine XQ.seq ?_
         refine XC.joinR (fun (v17 : (List Bool)) => ⟨[(0, .v (.one (dS a0))), (1, .v (.one (.apv 0 1 ((Enc.encL a1).length) []))), (2, .v (.one (dB a2))), (7, .v (.one (dI s2.2))), (8, .v (.one (dI s3.2))), (9, .v (.one (dI x12))), (11, .v (.one (dI (a0.length : Int)))), (12, .v (.one (dI s1.2)))], [], [(0, some ⟨4, 1, (Enc.encL a1).length, (Enc.encL v17).flatten⟩)], 1, 59, []⟩) (fun (v17 : (List Bool)) => (Option.bind (cond (!a2)
             (Option.bind (idx v17 s2.2) fun (x20 : Bool) =>
           guardO (Nat.beq (Enc.encL v17).length ((Enc.encL a1).length))
           (some x20))
             (some false)) (fun (v18 : Bool) => cond v18
             (Option.bind (idx v17 x12) fun (x20 : Bool) =>
           guardO (Nat.beq (Enc.encL v17).length ((Enc.encL a1).length))
           (some (.next ((v17.set x12.toNat true), (w64 (s3.2 + 1))))))
             (some (.next (v17, (w64 (s3.2 + 1))))))) = some oo3) ?_ ?_
         ·
          refine bindK h3 (fun w4_ h4 h3 => ?_)
          refine XC.cond (b := v13) rfl (fun c18 => ?_) (fun c18 => ?_)
          ·
           replace h4 := condT c18 h4
           refine XC.region <| rM rfl rfl rfl <| rM rfl rfl rfl ?_
           refine bindK h4 (fun x19 hx19 h4 => ?_)
           refine guardK h4 (fun g20 h4 => ?_)
           refine rR rfl rfl rfl (RO.indexPv (α := Bool) (l := s3.1) sl_75 rfl rfl rfl hx19 g20) <| XL.eff rfl rfl (OpOK.storePv (α := Bool) (l := s3.1) (y' := .one (dB true)) true ag_4 rfl rfl (.one (.d _)) rfl rfl hx19 g20 rfl) <| XL.nil ?_
           have e_ := Option.some.inj h4
           subst e_
           exact XQ.joinR (s3.1.set s2.2.toNat true) (stle (tR rfl (tR rfl (tR rfl (tR rfl (tR rfl (tR rfl (tR rfl (tR rfl tZ)))))))) hZ (kR rfl kZ) rfl (Nat.le_trans hv0 (lb rfl)) rfl rfl rfl bZ rfl rfl) h3
          ·
           replace h4 := condF c18 h4
           refine XC.skip ?_
           have e_ := Option.some.inj h4
           subst e_
           exact XQ.joinR s3.1 (stle (tR rfl (tR rfl (tR rfl (tR rfl (tR rfl (tR rfl (tR rfl (tR rfl tZ)))))))) hZ (kR rfl kZ) rfl (Nat.le_trans hv0 (lb rfl)) rfl rfl rfl bZ rfl rfl) h3
         ·
          intro v17 h3
          refine XQ.seq <| XC.seq ?_
          refine XC.joinR (fun (v21 : Bool) => ⟨[(0, .v (.one (dS a0))), (1, .v (.one (.apv 0 1 ((Enc.encL a1).length) []))), (2, .v (.one (dB a2))), (7, .v (.one (dI s2.2))), (8, .v (.one (dI s3.2))), (9, .v (.one (dI x12))), (11, .v (.one (dI (a0.length : Int)))), (12, .v (.one (dI s1.2))), (53, .v (.one (dB v21)))], [], [(0, some ⟨4, 1, (Enc.encL a1).length, (Enc.encL v17).flatten⟩)], 1, 59, []⟩) (fun (v21 : Bool) => (cond v21
              (Option.bind (idx v17 x12) fun (x23 : Bool) =>
            guardO (Nat.beq (Enc.encL v17).length ((Enc.encL a1).length))
            (some (.next ((v17.set x12.toNat true), (w64 (s3.2 + 1))))))
              (some (.next (v17, (w64 (s3.2 + 1)))))) = some oo3) ?_ ?_
          ·
           refine bindK h3 (fun w4_ h4 h3 => ?_)
           refine XC.region <| rM rfl rfl rfl <| rR rfl rfl rfl (RO.not rfl) <| rM rfl rfl rfl ?_
           refine XL.case (d := 48) (c := (!a2)) rfl (fun c22 => ?_) (fun c22 => ?_)
           ·
            replace h4 := condT c22 h4
            refine rM rfl rfl rfl <| rM rfl rfl rfl ?_
            refine bindK h4 (fun x23 hx23 h4 => ?_)
            refine guardK h4 (fun g24 h4 => ?_)
            refine rR rfl rfl rfl (RO.indexPv (α := Bool) (l := v17) sl_75 rfl rfl rfl hx23 g24) <| rR rfl rfl rfl (RO.loadPv (α := Bool) (l := v17) (v := x23) ag_4 rfl rfl hx23 g24 rfl) <| rR rfl rfl rfl (RO.pickT rfl rfl) <| XL.nil ?_
            have e_ := Option.some.inj h4
            subst e_
            exact XQ.joinR x23 (stle (tR rfl (tR rfl (tR rfl (tR rfl (tR rfl (tR rfl (tR rfl (tR rfl (tR rfl tZ))))))))) hZ (kR rfl kZ) rfl (Nat.le_trans hv0 (lb rfl)) rfl rfl rfl bZ rfl rfl) h3
           ·
            replace h4 := condF c22 h4
            refine XL.no rfl rfl <| XL.no rfl rfl <| XL.no rfl rfl <| XL.no rfl rfl <| rR rfl rfl rfl (RO.pickF rfl rfl) <| XL.nil ?_
            have e_ := Option.some.inj h4
            subst e_
            exact XQ.joinR false (stle (tR rfl (tR rfl (tR rfl (tR rfl (tR rfl (tR rfl (tR rfl (tR rfl (tR rfl tZ))))))))) hZ (kR rfl kZ) rfl (Nat.le_trans hv0 (lb rfl)) rfl rfl rfl bZ rfl rfl) h3
          ·
           intro v21 h3
           refine XQ.seq ?_
           refine XC.cond (b := v21) rfl (fun c25 => ?_) (fun c25 => ?_)
           ·
            replace h3 := condT c25 h3
            refine XC.region <| rM rfl rfl rfl <| rM rfl rfl rfl ?_
            refine bindK h3 (fun x26 hx26 h3 => ?_)
            refine guardK h3 (fun g27 h3 => ?_)
            refine rR rfl rfl rfl (RO.indexPv (α := Bool) (l := v17) sl_75 rfl rfl rfl hx26 g27) <| XL.eff rfl rfl (OpOK.storePv (α := Bool) (l := v17) (y' := .one (dB true)) true ag_4 rfl rfl (.one (.d _)) rfl rfl hx26 g27 rfl) <| XL.nil <| XQ.inBlock <| XQ.seq <| XC.region <| rM rfl rfl rfl <| rR rfl rfl rfl (RO.binInt rfl rfl rfl) <| rA rfl rfl rfl <| XL.nil ?_
            have e_ := Option.some.inj h3
            subst e_
            refine XQ.nextM ((v17.set x12.toNat true), (w64 (s3.2 + 1))) (stle (tR rfl (tR rfl (tR rfl (tR rfl (tR rfl (tR rfl (tR rfl tZ))))))) hZ (kR rfl kZ) rfl (Nat.le_trans hv0 (lb rfl)) rfl rfl rfl bZ rfl rfl) ho3
           ·
            replace h3 := condF c25 h3
            refine XC.skip <| XQ.inBlock <| XQ.seq <| XC.region <| rM rfl rfl rfl <| rR rfl rfl rfl (RO.binInt rfl rfl rfl) <| rA rfl rfl rfl <| XL.nil ?_
            have e_ := Option.some.inj h3
            subst e_
            refine XQ.nextM (v17, (w64 (s3.2 + 1))) (stle (tR rfl (tR rfl (tR rfl (tR rfl (tR rfl (tR rfl (tR rfl tZ))))))) hZ (kR rfl kZ) rfl (Nat.le_trans hv0 (lb rfl)) rfl rfl rfl bZ rfl rfl) ho3
       ·
        replace h3 := condF c10 h3
        refine XC.exit <| XQ.thenE <| XQ.thenE ?_
        have e_ := Option.some.inj h3
        subst e_
        have e_ : _ = _ := ho3
        subst e_
        exact XQ.joinX s3.1 (stle (tR rfl (tR rfl (tR rfl (tR rfl (tR rfl (tR rfl tZ)))))) hZ (kR rfl kZ) rfl (Nat.le_trans hv0 (lb rfl)) rfl rfl rfl bZ rfl rfl) h2
      ·
       intro o7 h2
       refine XQ.blockX <| XQ.inBlock <| XQ.seq <| XC.region <| rM rfl rfl rfl <| rR rfl rfl rfl (RO.binInt rfl rfl rfl) <| rA rfl rfl rfl <| XL.nil ?_
       have e_ := Option.some.inj h2
       subst e_
       refine XQ.nextM (o7, (w64 (s2.2 + 1))) (stle (tR rfl (tR rfl (tR rfl (tR rfl (tR rfl (tR rfl tZ)))))) hZ (kR rfl kZ) rfl (Nat.le_trans hv0 (lb rfl)) rfl rfl rfl bZ rfl rfl) ho2
     ·
      replace h2 := condF c6 h2
      refine XC.exit <| XQ.thenE <| XQ.thenE ?_
      have e_ := Option.some.inj h2
      subst e_
      have e_ : _ = _ := ho2
      subst e_
      exact XQ.joinX s2.1 (stle (tR rfl (tR rfl (tR rfl (tR rfl (tR rfl tZ))))) hZ (kR rfl kZ) rfl (Nat.le_trans hv0 (lb rfl)) rfl rfl rfl bZ rfl rfl) h1
    ·
     intro o4 h1
     refine XQ.blockX <| XQ.inBlock <| XQ.seq <| XC.region <| rR rfl rfl rfl (RO.binInt rfl rfl rfl) <| rM rfl rfl rfl <| XL.nil ?_
     have e_ := Option.some.inj h1
     subst e_
     refine XQ.nextM (o4, (w64 (s1.2 + 1))) (stle (tR rfl (tR rfl (tR rfl (tR rfl (tR rfl tZ))))) hZ (kR rfl kZ) rfl (Nat.le_trans hv0 (lb rfl)) rfl rfl rfl bZ rfl rfl) ho1
   ·
    replace h1 := condF c3 h1
    refine XC.exit <| XQ.thenE <| XQ.thenE ?_
    have e_ := Option.some.inj h1
    subst e_
    have e_ : _ = _ := ho1
    subst e_
    exact XQ.joinX s1.1 (stle (tR rfl tZ) hZ (kR rfl kZ) rfl (Nat.le_trans hv0 (lb rfl)) rfl rfl rfl bZ rfl rfl) h0
  ·
   intro o1 h0
   refine XQ.blockX <| XQ.seq <| XC.seq <| XC.region <| rM rfl rfl rfl <| rA rfl rfl rfl <| XL.nil <| XQ.seq <| XC.ret ?_
   refine guardK h0 (fun g28 h0 => ?_)
   have e_ := Option.some.inj h0
   subst e_
   refine XQ.retieT (α := Bool) (t := 6) (l := o1) rfl rfl g28 ?_
   exact hQ0 _ _ _ (.inr rfl) rfl (stle (tR rfl tZ) hZ (kR rfl kZ) rfl (Nat.le_trans hv0 (lb rfl)) rfl rfl rfl bZ rfl rfl)
def m13_l0 (a0 : List Dcl) (s2 : (List Bool) × Int) : Option (LO ((List Bool) × Int) (((List Bool)))) :=
  cond (decide (s2.2 < (a0.length : Int)))
    (guardO (Nat.ble (s2.1.length + ([false]).length) 1000000000)
  (some (.next ((s2.1 ++ ([false])), (w64 (s2.2 + 1))))))
    (some (.done s2.1))
def m13_l1 (a1 : List Bs) (a0 : List Dcl) (o7 : (List Bool)) (s2 : (List Bool) × Int) : Option (LO ((List Bool) × Int) (((List Bool)) ⊕ (Unit ⊕ ((List Bool))))) :=
  cond (decide (s2.2 < (a1.length : Int)))
    (Option.bind (idx a1 s2.2) fun (x10 : Bs) =>
  Option.bind (m48 a0 x10) fun (x11 : Int) =>
  cond (decide (x11 < 0))
    (some (.done (.inr (.inl ()))))
    (Option.bind (idx s2.1 x11) fun (x13 : Bool) =>
  guardO (Nat.beq (Enc.encL s2.1).length ((Enc.encL o7).length))
  (some (.next ((s2.1.set x11.toNat true), (w64 (s2.2 + 1)))))))
    (some (.done (.inl s2.1)))
def m13_l2 (a0 : List Dcl) (x20 : (List Bool)) (s1 : (List Bs) × Int) : Option (LO ((List Bs) × Int) (((List Bs)))) :=
  cond (decide (s1.2 < (a0.length : Int)))
    (Option.bind (idx x20 s1.2) fun (x23 : Bool) =>
  cond x23
    (Option.bind (idx a0 s1.2) fun (x25 : Dcl) =>
  Option.bind (m18 x25) fun (x26 : (List Bs)) =>
  guardO (Nat.ble (s1.1.length + x26.length) 1000000000)
  (some (.next ((s1.1 ++ x26), (w64 (s1.2 + 1))))))
    (some (.next (s1.1, (w64 (s1.2 + 1))))))
    (some (.done s1.1))
def m13 (a0 : List Dcl) (a1 : List Bs) : Option ((List Bs) × Int) :=
  Option.bind (m25 a0) fun (x1 : (List (List Int)) × Int) =>
  cond (x1.2 != 0)
    (some (([] : List Bs), x1.2))
    (Option.bind (Option.bind (loopN (m13_l0 a0) FUEL (([] : List Bool), 0)) (fun (o7 : (List Bool)) => Option.bind (loopN (m13_l1 a1 a0 o7) FUEL (o7, 0)) (Sum.elim (fun (o8 : (List Bool)) => guardO (Nat.beq (Enc.encL o8).length ((Enc.encL o7).length))
  (some (.inr o8))) (fun o => some o)))) (Sum.elim (fun (y3 : Unit) => some (([] : List Bs), 9)) (fun (y4 : (List Bool)) => Option.bind (m39f13 x1.1 y4 true) fun (x20 : (List Bool)) =>
  Option.bind (loopN (m13_l2 a0 x20) FUEL (([] : List Bs), 0)) (fun (o21 : (List Bs)) => some (o21, 0)))))
set_option maxRecDepth 100000 in
set_option maxHeartbeats 2000000 in
theorem m13_ok (a0 : List Dcl) (a1 : List Bs) (r : (List Bs) × Int) (h0 : m13 a0 a1 = some r) : Fun Try.prog 13 [.one (dS a0), .one (dS a1)] (resOf [.one (dS r.1), .one (dI r.2)]) := by
  unfold m13 at h0
  refine Fun.of_bodyM 9 49 Try.func13 rfl en_13 rfl (lb rfl) (fun S w => ?_)
  simp only [entry]
  refine XC.seq <| XC.region <| rA rfl rfl rfl <| rA rfl rfl rfl <| XL.nil <| XQ.seq <| XC.seq <| XC.region <| rM rfl rfl rfl ?_
  refine bindK h0 (fun x1 hx1 h0 => ?_)
  refine XL.put rfl rfl (lb rfl) (OpOK.callFun (m25_ok a0 x1 hx1) rfl (.cons (.one (.d _)) .nil)) <| rM rfl rfl rfl <| rR rfl rfl rfl (RO.extract rfl rfl) <| rR rfl rfl rfl (RO.extract rfl rfl) <| rA rfl rfl rfl <| rA rfl rfl rfl <| XL.nil <| XQ.seq <| XC.seq <| XC.seq <| XC.region <| rM rfl rfl rfl <| rR rfl rfl rfl (RO.binInt rfl rfl rfl) <| XL.nil ?_
  refine XQ.seq ?_
  refine XC.cond (b := (x1.2 != 0)) rfl (fun c2 => ?_) (fun c2 => ?_)
  ·
   replace h0 := condT c2 h0
   refine XC.seq <| XC.region <| rM rfl rfl rfl <| rA rfl rfl rfl <| rA rfl rfl rfl <| XL.nil <| XQ.seq <| XC.ret ?_
   have e_ := Option.some.inj h0
   subst e_
   exact XQ.retF (fun _ _ h => h) rfl (RAs.tmp rfl (RAs.tmp rfl .nil)) (.cons (.one (.nil _)) (.cons (.one (.d _)) .nil))
  ·
   replace h0 := condF c2 h0
   refine XC.skip <| XQ.seq <| XC.seq <| XC.region <| rM rfl rfl rfl <| rM rfl rfl rfl ?_
   refine bindK h0 (fun y6 h1 h0 => ?_)
   have hc5 : CallM Try.prog 38 [.one (dS a0), .one (dS a1)] ⟨[], [], 0⟩ (resOf (((Sum.elim (fun (y3 : Unit) => ([.one (dN), .one (dI 9)] : List AV)) (fun (y4 : (List Bool)) => ([.one (.apv 0 1 ((Enc.encL y4).length) []), .one (dI 0)] : List AV)))) y6)) ⟨(((Sum.elim (fun (y3 : Unit) => (⟨[(4, .v (.one (dN))), (5, .v (.one (dI 9)))], [], [], 1, 35, []⟩ : St)) (fun (y4 : (List Bool)) => (⟨[(4, .v (.one (.apv 0 1 ((Enc.encL y4).length) []))), (5, .v (.one (dI 0)))], [], [(0, some ⟨4, 1, (Enc.encL y4).length, (Enc.encL y4).flatten⟩)], 1, 35, []⟩ : St)))) y6).hp, (((Sum.elim (fun (y3 : Unit) => (⟨[(4, .v (.one (dN))), (5, .v (.one (dI 9)))], [], [], 1, 35, []⟩ : St)) (fun (y4 : (List Bool)) => (⟨[(4, .v (.one (.apv 0 1 ((Enc.encL y4).length) []))), (5, .v (.one (dI 0)))], [], [(0, some ⟨4, 1, (Enc.encL y4).length, (Enc.encL y4).flatten⟩)], 1, 35, []⟩ : St)))) y6).tk, (((Sum.elim (fun (y3 : Unit) => (⟨[(4, .v (.one (dN))), (5, .v (.one (dI 9)))], [], [], 1, 35, []⟩ : St)) (fun (y4 : (List Bool)) => (⟨[(4, .v (.one (.apv 0 1 ((Enc.encL y4).length) []))), (5, .v (.one (dI 0)))], [], [(0, some ⟨4, 1, (Enc.encL y4).length, (Enc.encL y4).flatten⟩)], 1, 35, []⟩ : St)))) y6).nx⟩ := by
    refine CallM.of_bodyT y6 ((Sum.elim (fun (y3 : Unit) => (⟨[(4, .v (.one (dN))), (5, .v (.one (dI 9)))], [], [], 1, 35, []⟩ : St)) (fun (y4 : (List Bool)) => (⟨[(4, .v (.one (.apv 0 1 ((Enc.encL y4).length) []))), (5, .v (.one (dI 0)))], [], [(0, some ⟨4, 1, (Enc.encL y4).length, (Enc.encL y4).flatten⟩)], 1, 35, []⟩ : St)))) ((Sum.elim (fun (y3 : Unit) => ([.one (dN), .one (dI 9)] : List AV)) (fun (y4 : (List Bool)) => ([.one (.apv 0 1 ((Enc.encL y4).length) []), .one (dI 0)] : List AV)))) rfl rfl en_38 (lb rfl) (fun z_ => by cases z_ <;> rfl) (fun z_ => by cases z_ with
      | inl _ => exact (RAs.tmp rfl (RAs.tmp rfl .nil))
      | inr _ => exact (RAs.tmp rfl (RAs.tmp rfl .nil))) (fun w0 M V0 Q hv1 hQ1 => ?_)
    simp only [entry]
    refine XC.seq <| XC.region <| rA rfl rfl rfl <| rA rfl rfl rfl <| XL.nil <| XQ.seq <| XC.seq <| XC.region <| rA rfl rfl rfl <| XL.nil <| XQ.seq <| XC.seq <| XC.seq <| XC.region ?_
    refine rM rfl rfl rfl <| rR rfl rfl rfl (RO.lenE (α := Dcl) sl_22 rfl (.d _)) <| rM rfl rfl rfl <| XL.nil <| XQ.seq <| XC.block ?_
    refine XC.joinX 0 (fun (o7 : (List Bool)) => ⟨[(0, .v (.one (dS a0))), (1, .v (.one (dS a1))), (6, .v (.one (.apv 0 1 ((Enc.encL o7).length) [])))], [], [(0, some ⟨4, 1, (Enc.encL o7).length, (Enc.encL o7).flatten⟩)], 1, 35, []⟩) (fun (o7 : (List Bool)) => (Option.bind (loopN (m13_l1 a1 a0 o7) FUEL (o7, 0)) (Sum.elim (fun (o8 : (List Bool)) => guardO (Nat.beq (Enc.encL o8).length ((Enc.encL o7).length))
      (some (.inr o8))) (fun o => some o))) = some y6) ?_ ?_
    ·
     refine XC.adoptT (t := 6) 4 1 rfl <| XC.privT (α := Bool) (t := 6) rfl rfl ?_
     refine bindK h1 (fun o8 hl2 h1 => ?_)
     refine XC.loopM (m13_l0 a0) (fun s2 => ⟨[(0, .v (.one (dS a0))), (1, .v (.one (dS a1))), (6, .v (.one (.apv 0 1 ((Enc.encL s2.1).length) []))), (10, .v (.one (dI (a0.length : Int)))), (11, .v (.one (dI s2.2)))], [], [(0, some ⟨4, 1, (Enc.encL s2.1).length, (Enc.encL s2.1).flatten⟩)], 1, 35, []⟩) (([] : List Bool), 0) o8 (stle (tR rfl (tR rfl (tR rfl (tR rfl (tR rfl tZ))))) hZ (kR rfl kZ) rfl (Nat.le_trans hv1 (lb rfl)) rfl rfl rfl bZ rfl rfl) hl2 (fun s2 n2 oo2 h2 ho2 => ?_)
     unfold m13_l0 at h2
     refine XC.seq <| XC.region <| rR rfl rfl rfl (RO.binInt rfl rfl rfl) <| XL.nil <| XQ.seq <| XC.seq ?_
     refine XC.cond (b := (decide (s2.2 < (a0.length : Int)))) rfl (fun c9 => ?_) (fun c9 => ?_)
     ·
      replace h2 := condT c9 h2
      refine XC.skip <| XQ.seq <| XC.seq <| XC.block <| XC.region <| rM rfl rfl rfl <| XL.put rfl rfl (lb rfl) (OpOK.lit1E (α := Bool) (false) sl_75 z_4 rfl rfl (lb rfl) (lb rfl) rfl rfl (.cons (.d _) .nil) rfl) ?_
      refine guardK h2 (fun g10 h2 => ?_)
      refine XL.put rfl rfl (lb rfl) (OpOK.appendPr (α := Bool) (l := s2.1) (l2 := ([false] : List Bool)) sl_75 el_4 rfl rfl rfl rfl (.app _ _) rfl g10) <| rA rfl rfl rfl <| XL.nil <| XQ.inBlock <| XQ.seq <| XC.region <| rR rfl rfl rfl (RO.binInt rfl rfl rfl) <| rM rfl rfl rfl <| XL.nil ?_
      have e_ := Option.some.inj h2
      subst e_
      refine XQ.nextM ((s2.1 ++ ([false])), (w64 (s2.2 + 1))) (stle (tR rfl (tR rfl (tR rfl (tR rfl (tR rfl tZ))))) hZ (kR rfl kZ) rfl (Nat.le_trans hv1 (lb rfl)) rfl rfl rfl bZ rfl rfl) ho2
     ·
      replace h2 := condF c9 h2
      refine XC.exit <| XQ.thenE <| XQ.thenE ?_
      have e_ := Option.some.inj h2
      subst e_
      have e_ : _ = _ := ho2
      subst e_
      exact XQ.joinX s2.1 (stle (tR rfl (tR rfl (tR rfl tZ))) hZ (kR rfl kZ) rfl (Nat.le_trans hv1 (lb rfl)) rfl rfl rfl bZ rfl rfl) h1
    ·
     intro o7 h1
     refine XQ.blockX <| XQ.seq <| XC.seq <| XC.seq <| XC.region <| rA rfl rfl rfl <| XL.nil <| XQ.seq <| XC.block ?_
     refine XC.joinX 2 (fun (o11 : (List Bool)) => ⟨[(6, .v (.one (.apv 0 1 ((Enc.encL o7).length) [])))], [], [(0, some ⟨4, 1, (Enc.encL o7).length, (Enc.encL o11).flatten⟩)], 1, 35, []⟩) (fun (o11 : (List Bool)) => (guardO (Nat.beq (Enc.encL o11).length ((Enc.encL o7).length))
       (some (.inr o11))) = some y6) ?_ ?_
     ·
      refine bindK h1 (fun o12 hl2 h1 => ?_)
      refine XC.loopM (m13_l1 a1 a0 o7) (fun s2 => ⟨[(0, .v (.one (dS a0))), (1, .v (.one (dS a1))), (6, .v (.one (.apv 0 1 ((Enc.encL o7).length) []))), (7, .v (.one (dI s2.2)))], [], [(0, some ⟨4, 1, (Enc.encL o7).length, (Enc.encL s2.1).flatten⟩)], 1, 35, []⟩) (o7, 0) o12 (stle (tR rfl (tR rfl (tR rfl (tR rfl tZ)))) hZ (kR rfl kZ) rfl (Nat.le_trans hv1 (lb rfl)) rfl rfl rfl bZ rfl rfl) hl2 (fun s2 n2 oo2 h2 ho2 => ?_)
      unfold m13_l1 at h2
      refine XC.seq <| XC.seq <| XC.region <| rM rfl rfl rfl <| rM rfl rfl rfl <| rR rfl rfl rfl (RO.lenE (α := Bs) sl_23 rfl (.d _)) <| rR rfl rfl rfl (RO.binInt rfl rfl rfl) <| XL.nil <| XQ.seq ?_
      refine XC.cond (b := (decide (s2.2 < (a1.length : Int)))) rfl (fun c13 => ?_) (fun c13 => ?_)
      ·
       replace h2 := condT c13 h2
       refine XC.skip <| XQ.seq <| XC.seq <| XC.block <| XC.seq <| XC.region <| rM rfl rfl rfl <| rM rfl rfl rfl <| rM rfl rfl rfl ?_
       refine bindK h2 (fun x14 hx14 h2 => ?_)
       refine rR rfl rfl rfl (RO.indexE (α := Bs) sl_23 rfl (.d _) rfl hx14) <| rR rfl rfl rfl (RO.loadPel ag_9 rfl rfl) ?_
       refine bindK h2 (fun x15 hx15 h2 => ?_)
       refine XL.put rfl rfl (lb rfl) (OpOK.callFun (m48_ok a0 x14 x15 hx15) rfl (.cons (.one (.d _)) (.cons (.one (.d _)) .nil))) <| rA rfl rfl rfl <| XL.nil <| XQ.seq <| XC.seq <| XC.seq <| XC.region <| rM rfl rfl rfl <| rR rfl rfl rfl (RO.binInt rfl rfl rfl) <| XL.nil <| XQ.seq ?_
       refine XC.cond (b := (decide (x15 < 0))) rfl (fun c16 => ?_) (fun c16 => ?_)
       ·
        replace h2 := condT c16 h2
        refine XC.seq <| XC.region <| rA rfl rfl rfl <| rA rfl rfl rfl <| XL.nil <| XQ.seq <| XC.ret ?_
        have e_ := Option.some.inj h2
        subst e_
        have e_ : _ = _ := ho2
        subst e_
        try dsimp only [Sum.elim_inl, Sum.elim_inr] at h1
        have e_ := Option.some.inj h1
        subst e_
        exact hQ1 _ _ _ (.inr rfl) rfl (show StLe _ _ ⟨[(4, .v (.one (dN))), (5, .v (.one (dI 9)))], [], [], 1, 35, []⟩ from (stle (tR rfl (tR rfl tZ)) hZ kZ rfl (Nat.le_trans hv1 (lb rfl)) rfl rfl rfl bZ rfl rfl))
       ·
        replace h2 := condF c16 h2
        refine XC.skip <| XQ.seq <| XC.region <| rM rfl rfl rfl <| rM rfl rfl rfl ?_
        refine bindK h2 (fun x17 hx17 h2 => ?_)
        refine guardK h2 (fun g18 h2 => ?_)
        refine rR rfl rfl rfl (RO.indexPv (α := Bool) (l := s2.1) sl_75 rfl rfl rfl hx17 g18) <| XL.eff rfl rfl (OpOK.storePv (α := Bool) (l := s2.1) (y' := .one (dB true)) true ag_4 rfl rfl (.one (.d _)) rfl rfl hx17 g18 rfl) <| XL.nil <| XQ.inBlock <| XQ.seq <| XC.region <| rM rfl rfl rfl <| rR rfl rfl rfl (RO.binInt rfl rfl rfl) <| rA rfl rfl rfl <| XL.nil ?_
        have e_ := Option.some.inj h2
        subst e_
        refine XQ.nextM ((s2.1.set x15.toNat true), (w64 (s2.2 + 1))) (stle (tR rfl (tR rfl (tR rfl (tR rfl tZ)))) hZ (kR rfl kZ) rfl (Nat.le_trans hv1 (lb rfl)) rfl rfl rfl bZ rfl rfl) ho2
      ·
       replace h2 := condF c13 h2
       refine XC.exit <| XQ.thenE <| XQ.thenE ?_
       have e_ := Option.some.inj h2
       subst e_
       have e_ : _ = _ := ho2
       subst e_
       exact XQ.joinX s2.1 (stle (tR rfl tZ) hZ (kR rfl kZ) rfl (Nat.le_trans hv1 (lb rfl)) rfl rfl rfl bZ rfl rfl) h1
     ·
      intro o11 h1
      refine XQ.blockX <| XQ.seq <| XC.seq <| XC.region <| rM rfl rfl rfl <| rA rfl rfl rfl <| rA rfl rfl rfl <| XL.nil <| XQ.seq <| XC.ret ?_
      refine guardK h1 (fun g19 h1 => ?_)
      have e_ := Option.some.inj h1
      subst e_
      refine XQ.retieT (α := Bool) (t := 4) (l := o11) rfl rfl g19 ?_
      exact hQ1 _ _ _ (.inr rfl) rfl (show StLe _ _ ⟨[(4, .v (.one (.apv 0 1 ((Enc.encL o11).length) []))), (5, .v (.one (dI 0)))], [], [(0, some ⟨4, 1, (Enc.encL o11).length, (Enc.encL o11).flatten⟩)], 1, 35, []⟩ from (stle (tR rfl (tR rfl tZ)) hZ (kR rfl kZ) rfl (Nat.le_trans hv1 (lb rfl)) rfl rfl rfl bZ rfl rfl))
   refine sumK (C := fun q_ => CallM Try.prog 38 [.one (dS a0), .one (dS a1)] ⟨[], [], 0⟩ (resOf (((Sum.elim (fun (y3 : Unit) => ([.one (dN), .one (dI 9)] : List AV)) (fun (y4 : (List Bool)) => ([.one (.apv 0 1 ((Enc.encL y4).length) []), .one (dI 0)] : List AV)))) q_)) ⟨(((Sum.elim (fun (y3 : Unit) => (⟨[(4, .v (.one (dN))), (5, .v (.one (dI 9)))], [], [], 1, 35, []⟩ : St)) (fun (y4 : (List Bool)) => (⟨[(4, .v (.one (.apv 0 1 ((Enc.encL y4).length) []))), (5, .v (.one (dI 0)))], [], [(0, some ⟨4, 1, (Enc.encL y4).length, (Enc.encL y4).flatten⟩)], 1, 35, []⟩ : St)))) q_).hp, (((Sum.elim (fun (y3 : Unit) => (⟨[(4, .v (.one (dN))), (5, .v (.one (dI 9)))], [], [], 1, 35, []⟩ : St)) (fun (y4 : (List Bool)) => (⟨[(4, .v (.one (.apv 0 1 ((Enc.encL y4).length) []))), (5, .v (.one (dI 0)))], [], [(0, some ⟨4, 1, (Enc.encL y4).length, (Enc.encL y4).flatten⟩)], 1, 35, []⟩ : St)))) q_).tk, (((Sum.elim (fun (y3 : Unit) => (⟨[(4, .v (.one (dN))), (5, .v (.one (dI 9)))], [], [], 1, 35, []⟩ : St)) (fun (y4 : (List Bool)) => (⟨[(4, .v (.one (.apv 0 1 ((Enc.encL y4).length) []))), (5, .v (.one (dI 0)))], [], [(0, some ⟨4, 1, (Enc.encL y4).length, (Enc.encL y4).flatten⟩)], 1, 35, []⟩ : St)))) q_).nx⟩) hc5 h0 (fun y3 hc5 h0 => ?_) (fun y4 hc5 h0 => ?_)
   ·
    replace hc5 : CallM Try.prog 38 [.one (dS a0), .one (dS a1)] ⟨[], [], 0⟩ (resOf [.one (dN), .one (dI 9)]) ⟨[], [], 1⟩ := hc5
    refine XL.put rfl rfl (lb rfl) (OpOK.callW rfl rfl rfl hc5 rfl hZ kZ) <| rM rfl rfl rfl <| rR rfl rfl rfl (RO.extract rfl rfl) <| rR rfl rfl rfl (RO.extract rfl rfl) <| rA rfl rfl rfl <| rA rfl rfl rfl <| XL.nil <| XQ.seq <| XC.seq <| XC.seq <| XC.region <| rM rfl rfl rfl <| rR rfl rfl rfl (RO.binInt rfl rfl rfl) <| XL.nil ?_
    refine XQ.seq ?_
    refine XC.cond rfl (fun _ => ?_) (fun h => nomatch h)
    refine XC.seq <| XC.region <| rM rfl rfl rfl <| rA rfl rfl rfl <| rA rfl rfl rfl <| XL.nil <| XQ.seq <| XC.ret ?_
    have e_ := Option.some.inj h0
    subst e_
    exact XQ.retF (fun _ _ h => h) rfl (RAs.tmp rfl (RAs.tmp rfl .nil)) (.cons (.one (.nil _)) (.cons (.one (.d _)) .nil))
   ·
    replace hc5 : CallM Try.prog 38 [.one (dS a0), .one (dS a1)] ⟨[], [], 0⟩ (resOf [.one (.apv 0 1 ((Enc.encL y4).length) []), .one (dI 0)]) ⟨[], [(0, some ⟨4, 1, (Enc.encL y4).length, (Enc.encL y4).flatten⟩)], 1⟩ := hc5
    refine XL.put rfl rfl (lb rfl) (OpOK.callW rfl rfl rfl hc5 rfl hZ kZ) <| rM rfl rfl rfl <| rR rfl rfl rfl (RO.extract rfl rfl) <| rR rfl rfl rfl (RO.extract rfl rfl) <| rA rfl rfl rfl <| rA rfl rfl rfl <| XL.nil <| XQ.seq <| XC.seq <| XC.seq <| XC.region <| rM rfl rfl rfl <| rR rfl rfl rfl (RO.binInt rfl rfl rfl) <| XL.nil ?_
    refine XQ.seq ?_
    refine XC.cond rfl (fun h => nomatch h) (fun _ => ?_)
    refine XC.skip <| XQ.seq <| XC.seq <| XC.region <| rM rfl rfl rfl <| rM rfl rfl rfl ?_
    refine bindK h0 (fun x20 hx20 h0 => ?_)
    refine XL.put rfl rfl (lb rfl) (OpOK.callG (hp1' := []) (tk1' := [(0, some ⟨4, 1, (Enc.encL x20).length, (Enc.encL x20).flatten⟩)]) (hpF := []) (tkF := []) (res2 := resOf [.one (.apv 0 1 ((Enc.encL x20).length) [])]) (nx2 := 1) [0] rfl rfl (m39f13_ok x1.1 y4 true x20 hx20) rfl rfl qZ rfl rfl gZ (jR rfl jZ) hZ kZ rfl rfl rfl rfl rfl bZ rfl rfl rfl rfl) <| rA rfl rfl rfl <| XL.nil <| XQ.seq <| XC.seq <| XC.region <| rA rfl rfl rfl <| XL.nil <| XQ.seq <| XC.seq <| XC.seq <| XC.region <| rA rfl rfl rfl <| XL.nil ?_
    refine XQ.seq <| XC.block ?_
    refine XC.joinX 0 (fun (o21 : (List Bs)) => ⟨[(9, .v (.one (dA 1 o21)))], [], [(0, some ⟨4, 1, (Enc.encL x20).length, (Enc.encL x20).flatten⟩), (1, some ⟨9, 1, (Enc.encL o21).length, []⟩)], 2, 49, []⟩) (fun (o21 : (List Bs)) => (some (o21, 0)) = some r) ?_ ?_
    ·
     refine XC.adoptT (t := 9) 9 1 rfl ?_
     refine bindK h0 (fun o22 hl1 h0 => ?_)
     refine XC.loopM (m13_l2 a0 x20) (fun s1 => ⟨[(0, .v (.one (dS a0))), (8, .v (.one (.apv 0 1 ((Enc.encL x20).length) []))), (9, .v (.one (dA 1 s1.1))), (10, .v (.one (dI s1.2)))], [], [(0, some ⟨4, 1, (Enc.encL x20).length, (Enc.encL x20).flatten⟩), (1, some ⟨9, 1, (Enc.encL s1.1).length, []⟩)], 2, 49, []⟩) (([] : List Bs), 0) o22 (stle (tR rfl (tR rfl (tR rfl (tR rfl tZ)))) hZ (kR rfl (kR rfl kZ)) rfl (Nat.zero_le _) rfl rfl rfl bZ rfl rfl) hl1 (fun s1 n1 oo1 h1 ho1 => ?_)
     unfold m13_l2 at h1
     refine XC.seq <| XC.seq <| XC.region <| rM rfl rfl rfl <| rM rfl rfl rfl <| rR rfl rfl rfl (RO.lenE (α := Dcl) sl_22 rfl (.d _)) <| rR rfl rfl rfl (RO.binInt rfl rfl rfl) <| XL.nil <| XQ.seq ?_
     refine XC.cond (b := (decide (s1.2 < (a0.length : Int)))) rfl (fun c23 => ?_) (fun c23 => ?_)
     ·
      replace h1 := condT c23 h1
      refine XC.skip <| XQ.seq <| XC.seq <| XC.block <| XC.seq <| XC.region <| rM rfl rfl rfl <| rM rfl rfl rfl ?_
      refine bindK h1 (fun x24 hx24 h1 => ?_)
      refine rR rfl rfl rfl (RO.indexPv (α := Bool) (l := x20) sl_75 rfl rfl rfl hx24 (by simp)) ?_
      refine rR rfl rfl rfl (RO.loadPv (α := Bool) (l := x20) (v := x24) ag_4 rfl rfl hx24 (by simp) rfl) ?_
      refine XL.nil <| XQ.seq ?_
      refine XC.cond (b := x24) rfl (fun c25 => ?_) (fun c25 => ?_)
      ·
       replace h1 := condT c25 h1
       refine XC.region <| rM rfl rfl rfl <| rM rfl rfl rfl <| rM rfl rfl rfl ?_
       refine bindK h1 (fun x26 hx26 h1 => ?_)
       refine rR rfl rfl rfl (RO.indexE (α := Dcl) sl_22 rfl (.d _) rfl hx26) <| rR rfl rfl rfl (RO.loadPelCE (x26 : Dcl) ag_48 rfl) ?_
       refine bindK h1 (fun x27 hx27 h1 => ?_)
       refine XL.put rfl rfl (lb rfl) (OpOK.callFun (m18_ok x26 x27 hx27) rfl (.cons (.agg (.cons (.d _) (.cons (.d _) (.cons (.d _) (.cons (.d _) (.cons (.d _) (.cons (.d _) (.cons (.d _) (.cons (.d _) (.cons (.d _) (.cons (.d _) (.cons (.d _) (.cons (.d _) (.cons (.d _) (.cons (.d _) (.cons (.d _) (.cons (.d _) (.cons (.d _) (.cons (.d _) (.cons (.d _) (.cons (.d _) (.cons (.d _) (.cons (.d _) (.cons (.d _) .nil)))))))))))))))))))))))) .nil)) ?_
       refine guardK h1 (fun g28 h1 => ?_)
       refine XL.put rfl rfl (lb rfl) (OpOK.appendE (α := Bs) sl_23 el_9 rfl rfl rfl rfl rfl (.d _) g28) <| rA rfl rfl rfl <| XL.nil <| XQ.inBlock <| XQ.seq <| XC.region <| rM rfl rfl rfl <| rR rfl rfl rfl (RO.binInt rfl rfl rfl) <| rA rfl rfl rfl <| XL.nil ?_
       have e_ := Option.some.inj h1
       subst e_
       refine XQ.nextM ((s1.1 ++ x27), (w64 (s1.2 + 1))) (stle (tR rfl (tR rfl (tR rfl (tR rfl tZ)))) hZ (kR rfl (kR rfl kZ)) rfl (Nat.zero_le _) rfl rfl rfl bZ rfl rfl) ho1
      ·
       replace h1 := condF c25 h1
       refine XC.skip <| XQ.inBlock <| XQ.seq <| XC.region <| rM rfl rfl rfl <| rR rfl rfl rfl (RO.binInt rfl rfl rfl) <| rA rfl rfl rfl <| XL.nil ?_
       have e_ := Option.some.inj h1
       subst e_
       refine XQ.nextM (s1.1, (w64 (s1.2 + 1))) (stle (tR rfl (tR rfl (tR rfl (tR rfl tZ)))) hZ (kR rfl (kR rfl kZ)) rfl (Nat.zero_le _) rfl rfl rfl bZ rfl rfl) ho1
     ·
      replace h1 := condF c23 h1
      refine XC.exit <| XQ.thenE <| XQ.thenE ?_
      have e_ := Option.some.inj h1
      subst e_
      have e_ : _ = _ := ho1
      subst e_
      exact XQ.joinX s1.1 (stle (tR rfl tZ) hZ (kR rfl (kR rfl kZ)) rfl (Nat.zero_le _) rfl rfl rfl bZ rfl rfl) h0
    ·
     intro o21 h0
     refine XQ.blockX <| XQ.seq <| XC.seq <| XC.region <| rM rfl rfl rfl <| rA rfl rfl rfl <| rA rfl rfl rfl <| XL.nil <| XQ.seq <| XC.ret ?_
     have e_ := Option.some.inj h0
     subst e_
     exact XQ.retF (fun _ _ h => h) rfl (RAs.tmp rfl (RAs.tmp rfl .nil)) (.cons (.one (.app _ _ _)) (.cons (.one (.d _)) .nil))
end Go.Proofs.Ytijcchddnnnmdaa
namespace Go.Proofs.Ytijcchddnnnmdaa
open Go.RowKit Go.Lib
set_option linter.unusedSimpArgs false
set_option linter.unusedVariables false
set_option linter.unusedSectionVars false
def On (b : List Bool) (i : Nat) : Prop := b[i]? = some true
def Closed (E : Nat → Nat → Prop) (C : Nat → Prop) : Prop := ∀ i j, E i j → C i → C j
structure Least (E : Nat → Nat → Prop) (n : Nat) (S : Nat → Prop) (b : List Bool) : Prop where
  len : b.length = n
  start : ∀ i, S i → On b i
  cl : Closed E (On b)
  min : ∀ C : Nat → Prop, (∀ i, S i → C i) → Closed E C → ∀ i, On b i → C i
theorem on_set {b : List Bool} {i : Nat} (hi : i < b.length) (k : Nat) : On (b.set i true) k ↔ k = i ∨ On b k := by
  unfold On
  rw [List.getElem?_set]
  by_cases e : i = k
  · subst e; rw [if_pos rfl, if_pos hi]; simp
  · rw [if_neg e]; exact ⟨.inr, fun h => h.elim (fun h => absurd h.symm e) id⟩
theorem on_ext {a b : List Bool} (hl : a.length = b.length) (h : ∀ i, On a i ↔ On b i) : a = b := by
  refine List.ext_getElem? fun i => ?_
  by_cases hi : i < a.length
  · have e1 : a[i]? = some a[i] := List.getElem?_eq_getElem hi
    have e2 : b[i]? = some b[i] := List.getElem?_eq_getElem (by omega)
    have := h i
    unfold On at this
    rw [e1, e2] at this ⊢
    cases ha : a[i] <;> cases hb : b[i] <;> simp [ha, hb] at this ⊢
  · rw [List.getElem?_eq_none (by omega), List.getElem?_eq_none (by omega)]
theorem on_cases {b : List Bool} {i : Nat} (hi : i < b.length) : (b[i]? = some true ∧ On b i) ∨ (b[i]? = some false ∧ ¬ On b i) := by
  have e1 : b[i]? = some b[i] := List.getElem?_eq_getElem hi
  unfold On
  rw [e1]
  cases b[i] <;> simp
theorem Least.uniq {E E' : Nat → Nat → Prop} {n : Nat} {S S' : Nat → Prop} {b b' : List Bool} (h : Least E n S b) (h' : Least E' n S' b') (hE : ∀ i j, E i j ↔ E' i j) (hS : ∀ i, S i ↔ S' i) : b = b' :=
  on_ext (by rw [h.len, h'.len]) fun i =>
    ⟨h.min (On b') (fun k hk => h'.start k ((hS k).1 hk)) (fun k j e hk => h'.cl k j ((hE k j).1 e) hk) i,
     h'.min (On b) (fun k hk => h.start k ((hS k).2 hk)) (fun k j e hk => h.cl k j ((hE k j).2 e) hk) i⟩
theorem off_on (n i : Nat) : ¬ On (List.replicate n false) i := by
  unfold On
  rw [List.getElem?_replicate]
  split <;> simp
def cnt : List Bool → Nat
  | [] => 0
  | true :: b => cnt b
  | false :: b => cnt b + 1
theorem cnt_le : ∀ b : List Bool, cnt b ≤ b.length
  | [] => Nat.le_refl _
  | true :: b => by have := cnt_le b; simp only [cnt, List.length_cons]; omega
  | false :: b => by have := cnt_le b; simp only [cnt, List.length_cons]; omega
theorem cnt_mono : ∀ (a b : List Bool), a.length = b.length → (∀ i, On a i → On b i) → cnt b ≤ cnt a
  | [], [], _, _ => Nat.le_refl _
  | [], _ :: _, h, _ => by cases h
  | _ :: _, [], h, _ => by cases h
  | x :: a, y :: b, hl, h => by
    have ih := cnt_mono a b (by simpa using hl) fun i hi => h (i + 1) hi
    cases x <;> cases y <;> simp only [cnt] <;> try omega
    have := h 0 rfl
    cases this
theorem cnt_eq : ∀ (a b : List Bool), a.length = b.length → (∀ i, On a i → On b i) → cnt b = cnt a → a = b
  | [], [], _, _, _ => rfl
  | [], _ :: _, h, _, _ => by cases h
  | _ :: _, [], h, _, _ => by cases h
  | x :: a, y :: b, hl, h, hc => by
    have h' : ∀ i, On a i → On b i := fun i hi => h (i + 1) hi
    have hl' : a.length = b.length := by simpa using hl
    have ih := cnt_mono a b hl' h'
    cases x <;> cases y <;> simp only [cnt] at hc
    · rw [cnt_eq a b hl' h' (by omega)]
    · omega
    · have := h 0 rfl
      cases this
    · rw [cnt_eq a b hl' h' (by omega)]
theorem cnt_zero : ∀ (b : List Bool), cnt b = 0 → ∀ i, i < b.length → On b i
  | [], _, i, hi => by cases hi
  | true :: b, h, 0, _ => rfl
  | true :: b, h, i + 1, hi => cnt_zero b h i (by simpa using hi)
  | false :: b, h, _, _ => by simp only [cnt] at h; omega
theorem cnt_set : ∀ (b : List Bool) (i : Nat), b[i]? = some false → cnt (b.set i true) < cnt b
  | [], i, h => by cases h
  | x :: b, 0, h => by cases h; simp only [List.set_cons_zero, cnt]; omega
  | x :: b, i + 1, h => by
    have := cnt_set b i h
    cases x <;> simp only [List.set_cons_succ, cnt] <;> omega
def Ed (g : List (List Int)) (i j : Nat) : Prop := ∃ l, g[i]? = some l ∧ (j : Int) ∈ l
def GrB (g : List (List Int)) (n B : Nat) : Prop := g.length = n ∧ ∀ l ∈ g, l.length ≤ B ∧ ∀ j ∈ l, ∃ k : Nat, k < n ∧ j = (k : Int)
theorem Ed.lt {g : List (List Int)} {n B i j : Nat} (hg : GrB g n B) (h : Ed g i j) : i < n ∧ j < n := by
  obtain ⟨l, h1, h2⟩ := h
  obtain ⟨h3, h4⟩ := List.getElem?_eq_some_iff.1 h1
  obtain ⟨k, h5, h6⟩ := (hg.2 l (List.mem_of_getElem? h1)).2 _ h2
  exact ⟨by rw [← hg.1]; exact h3, by omega⟩
structure Vis (E : Nat → Nat → Prop) (b b' : List Bool) (T : Nat → Prop) : Prop where
  len : b'.length = b.length
  mono : ∀ k, On b k → On b' k
  tgt : ∀ i, T i → On b' i
  cl : ∀ k j, On b' k → ¬ On b k → E k j → On b' j
  min : ∀ C : Nat → Prop, Closed E C → (∀ i, T i → C i) → ∀ k, On b' k → On b k ∨ C k
theorem Vis.refl {E : Nat → Nat → Prop} {b : List Bool} {T : Nat → Prop} (h : ∀ i, T i → On b i) : Vis E b b T :=
  ⟨rfl, fun _ h => h, h, fun k j h1 h2 _ => absurd h1 h2, fun _ _ _ _ h => .inl h⟩
theorem Vis.trans {E : Nat → Nat → Prop} {b b' b'' : List Bool} {T T' T'' : Nat → Prop} (h : Vis E b b' T) (h' : Vis E b' b'' T') (hT : ∀ i, T'' i ↔ T i ∨ T' i) : Vis E b b'' T'' where
  len := by rw [h'.len, h.len]
  mono k hk := h'.mono k (h.mono k hk)
  tgt i hi := ((hT i).1 hi).elim (fun e => h'.mono i (h.tgt i e)) (h'.tgt i)
  cl k j h1 h2 e := by
    by_cases h3 : On b' k
    · exact h'.mono j (h.cl k j h3 h2 e)
    · exact h'.cl k j h1 h3 e
  min C hC hT' k hk := (h'.min C hC (fun i hi => hT' i ((hT i).2 (.inr hi))) k hk).elim (h.min C hC (fun i hi => hT' i ((hT i).2 (.inl hi))) k) .inr
theorem Vis.enter {E : Nat → Nat → Prop} {b b' : List Bool} {i : Nat} (hi : i < b.length) (h : Vis E (b.set i true) b' (E i)) : Vis E b b' (fun k => k = i) where
  len := by rw [h.len, List.length_set]
  mono k hk := h.mono k ((on_set hi k).2 (.inr hk))
  tgt k hk := h.mono k ((on_set hi k).2 (.inl hk))
  cl k j h1 h2 e := by
    by_cases h3 : k = i
    · subst h3; exact h.tgt j e
    · exact h.cl k j h1 (fun h4 => ((on_set hi k).1 h4).elim h3 h2) e
  min C hC hT k hk := (h.min C hC (fun j hj => hC i j hj (hT i rfl)) k hk).elim (fun h4 => ((on_set hi k).1 h4).elim (fun e => .inr (by rw [e]; exact hT i rfl)) .inl) .inr
theorem Vis.least {E : Nat → Nat → Prop} {n : Nat} {T : Nat → Prop} {b : List Bool} (h : Vis E (List.replicate n false) b T) : Least E n T b where
  len := by rw [h.len, List.length_replicate]
  start := h.tgt
  cl i j e hi := h.cl i j hi (off_on n i) e
  min C hT hC i hi := (h.min C hC hT i hi).elim (fun h => absurd h (off_on n i)) id
theorem dfs {g : List (List Int)} {n B : Nat} (hg : GrB g n B) (hB : B ≤ 900000000) : ∀ (fuel i : Nat) (b : List Bool), i < n → b.length = n → cnt b < fuel →
    ∃ b', recO m56f12F fuel ((i : Int), n, b, g) = some b' ∧ Vis (Ed g) b b' (fun k => k = i) := by
  intro fuel
  induction fuel with
  | zero => intro i b _ _ h; omega
  | succ fuel ih =>
    intro i b hi hb hc
    show ∃ b', m56f12s (recO m56f12F fuel) (i : Int) n b g = some b' ∧ _
    unfold m56f12s
    rcases on_cases (b := b) (i := i) (by omega) with ⟨e, ho⟩ | ⟨e, ho⟩
    · rw [idx_at e]
      simp only [Option.bind_some]
      rw [guard_eq hb]
      exact ⟨b, rfl, .refl fun k hk => by rw [hk]; exact ho⟩
    · rw [idx_at e]
      simp only [Option.bind_some]
      rw [guard_eq hb]
      simp only [cond_false]
      rw [guard_eq hb]
      have hil : i < g.length := by rw [hg.1]; exact hi
      have el : g[i]? = some g[i] := List.getElem?_eq_getElem hil
      obtain ⟨hl1, hl2⟩ := hg.2 g[i] (List.getElem_mem hil)
      rw [idx_at el]
      simp only [Option.bind_some, Int.toNat_natCast]
      obtain ⟨b', e1, h1⟩ := loop_all (step := m56f12_l0 g[i] (recO m56f12F fuel) n g) g[i] (fun k s => (k, s))
        (fun a s => Vis (Ed g) (b.set i true) s (fun k => (k : Int) ∈ a)) (fun r => Vis (Ed g) (b.set i true) r (fun k => (k : Int) ∈ g[i])) (by omega)
        (fun a x c s e2 hI => by
          obtain ⟨k, hk, rfl⟩ := hl2 x (by rw [e2]; simp)
          have hcs := cnt_set b i e
          have hcm := cnt_mono (b.set i true) s hI.len.symm hI.mono
          obtain ⟨s', e3, h3⟩ := ih k s hk (by rw [hI.len, List.length_set]; exact hb) (by omega)
          refine .inr ⟨s', ?_, hI.trans h3 fun j => ?_⟩
          · unfold m56f12_l0
            dsimp only
            rw [e2, lt_mid, idx_mid]
            simp only [cond_true, Option.bind_some]
            rw [e3]; rfl
          · rw [List.mem_append, List.mem_singleton]
            exact ⟨fun h => h.elim .inl fun h => .inr (by omega), fun h => h.elim .inl fun h => .inr (by omega)⟩)
        (fun s hI => ⟨s, by unfold m56f12_l0; dsimp only; rw [lt_end]; rfl, hI⟩) (b.set i true) (.refl fun k hk => by cases hk)
      rw [e1]
      refine ⟨b', rfl, Vis.enter (by omega) ⟨h1.len, h1.mono, fun k hk => h1.tgt k ?_, h1.cl, fun C hC hT k hk => h1.min C hC (fun j hj => hT j ⟨g[i], el, hj⟩) k hk⟩⟩
      obtain ⟨l, h2, h3⟩ := hk
      rw [el] at h2
      cases h2
      exact h3
def starts (env : List Dcl) (a : List Bs) (i : Nat) : Prop := ∃ s ∈ a, ownO 0 env s = some (i : Int)
theorem visits_eq {env : List Dcl} {g rv : List (List Int)} {M : OM} {n B : Nat} (hn : env.length = n) (hg : GrB rv n B) (hB : B ≤ 900000000) (hN : n ≤ 900000000) (hM : ∀ s, gmGet M s = ownO 0 env s) (a : List Bs) (ha : a.length ≤ 900000000) :
    ∃ r, loopN (m12_l4 a (g, M) rv) FUEL (0, List.replicate n false) = some r ∧
      (((∀ s ∈ a, s ∈ allNames env) ∧ ∃ b, r = .inl b ∧ Least (Ed rv) n (starts env a) b) ∨ (¬ (∀ s ∈ a, s ∈ allNames env) ∧ r = .inr (.inl ()))) := by
  refine loop_all (step := m12_l4 a (g, M) rv) a (fun k s => (k, s)) (fun p s => (∀ x ∈ p, x ∈ allNames env) ∧ Vis (Ed rv) (List.replicate n false) s (starts env p)) _ ha ?_ ?_ _ ⟨fun x hx => (by cases hx), .refl fun i hi => (by obtain ⟨s, hs, -⟩ := hi; cases hs)⟩
  · rintro p x c s e ⟨hp, hI⟩
    by_cases hx : x ∈ allNames env
    · obtain ⟨k, hk, e1⟩ := ownV_range hx
      have hb : s.length = n := by rw [hI.len, List.length_replicate]
      have hcs := cnt_le s
      obtain ⟨s', e2, h2⟩ := dfs hg hB FUEL k s (by omega) hb (by unfold FUEL; omega)
      refine .inr ⟨s', ?_, fun y hy => (List.mem_append.1 hy).elim (hp y) (fun h => by rw [List.mem_singleton.1 h]; exact hx), hI.trans h2 fun i => ?_⟩
      · unfold m12_l4
        dsimp only
        have e3 : gmHas M x = true := by unfold gmHas; rw [hM, e1]; rfl
        have e4 : gmVal M x = (k : Int) := by unfold gmVal; rw [hM, e1]; rfl
        rw [e, lt_mid, idx_mid]
        simp only [cond_true, Option.bind_some]
        rw [e3, e4, hg.1]
        simp only [Bool.not_true, cond_false, Int.toNat_natCast]
        unfold m56f12
        rw [e2]; rfl
      · unfold starts
        constructor
        · rintro ⟨y, hy, e3⟩
          rcases List.mem_append.1 hy with h | h
          · exact .inl ⟨y, h, e3⟩
          · rw [List.mem_singleton.1 h, e1] at e3
            exact .inr (by injection e3; omega)
        · rintro (⟨y, hy, e3⟩ | rfl)
          · exact ⟨y, List.mem_append_left _ hy, e3⟩
          · exact ⟨x, by simp, e1⟩
    · refine .inl ⟨_, ?_, .inr ⟨fun h => hx (h x (by rw [e]; simp)), rfl⟩⟩
      unfold m12_l4
      dsimp only
      have e3 : gmHas M x = false := by unfold gmHas; rw [hM, (ownO_none x env 0).2 hx]; rfl
      rw [e, lt_mid, idx_mid]
      simp only [cond_true, Option.bind_some]
      rw [e3]; rfl
  · rintro s ⟨hp, hI⟩
    refine ⟨.inl s, ?_, .inl ⟨hp, s, rfl, hI.least⟩⟩
    unfold m12_l4
    dsimp only
    rw [lt_end]; rfl
end Go.Proofs.Ytijcchddnnnmdaa
namespace Go.Proofs.Ytijcchddnnnmdaa
open Go.RowKit Go.Lib
set_option linter.unusedSimpArgs false
set_option linter.unusedVariables false
set_option linter.unusedSectionVars false
structure Up (E : Nat → Nat → Prop) (b b' : List Bool) (T : Nat → Nat → Prop) : Prop where
  len : b'.length = b.length
  mono : ∀ k, On b k → On b' k
  stp : ∀ s t, T s t → On b s → On b' t
  min : ∀ C : Nat → Prop, Closed E C → (∀ k, On b k → C k) → ∀ k, On b' k → C k
theorem Up.refl {E T : Nat → Nat → Prop} {b : List Bool} (h : ∀ s t, T s t → On b s → On b t) : Up E b b T := ⟨rfl, fun _ h => h, h, fun _ _ h => h⟩
theorem Up.trans {E T T' T'' : Nat → Nat → Prop} {b b' b'' : List Bool} (h : Up E b b' T) (h' : Up E b' b'' T') (hT : ∀ s t, T'' s t → T s t ∨ T' s t) : Up E b b'' T'' where
  len := by rw [h'.len, h.len]
  mono k hk := h'.mono k (h.mono k hk)
  stp s t e hs := (hT s t e).elim (fun e => h'.mono t (h.stp s t e hs)) (fun e => h'.stp s t e (h.mono s hs))
  min C hC hb := h'.min C hC (h.min C hC hb)
theorem Up.set {E : Nat → Nat → Prop} {b : List Bool} {s t : Nat} (ht : t < b.length) (e : E s t) (hs : On b s) : Up E b (b.set t true) (fun x y => x = s ∧ y = t) where
  len := List.length_set
  mono k hk := (on_set ht k).2 (.inr hk)
  stp x y h _ := (on_set ht y).2 (.inl h.2)
  min C hC hb k hk := ((on_set ht k).1 hk).elim (fun h => by rw [h]; exact hC s t e (hb s hs)) (hb k)
def Ev (d : Bool) (g : List (List Int)) (i j : Nat) : Prop := cond d (Ed g j i) (Ed g i j)
theorem row_pass {g : List (List Int)} {n B : Nat} (hg : GrB g n B) (hB : B ≤ 900000000) (d : Bool) (z : List Bool) (hz : z.length = n) (e0 : Int) (v : List Bool) (hv : v.length = n) (i : Nat) (hi : i < n) (v0 : List Bool) :
    ∃ r, loopN (m39f13_l0 g (v0, (i : Int)) d z) FUEL (v, 0) = some r ∧ Up (Ev d g) v r (fun s t => cond d (t = i ∧ Ed g i s) (s = i ∧ Ed g i t)) := by
  have hil : i < g.length := by rw [hg.1]; exact hi
  have el : g[i]? = some g[i] := List.getElem?_eq_getElem hil
  obtain ⟨hl1, hl2⟩ := hg.2 g[i] (List.getElem_mem hil)
  obtain ⟨r, e1, h1⟩ := loop_all (step := m39f13_l0 g (v0, (i : Int)) d z) g[i] (fun k s => (s, k))
    (fun a s => Up (Ev d g) v s (fun s t => cond d (t = i ∧ (s : Int) ∈ a) (s = i ∧ (t : Int) ∈ a))) (fun r => Up (Ev d g) v r (fun s t => cond d (t = i ∧ (s : Int) ∈ g[i]) (s = i ∧ (t : Int) ∈ g[i]))) (by omega)
    (fun a x c s e hI => by
      obtain ⟨k, hk, rfl⟩ := hl2 x (by rw [e]; simp)
      have hs : s.length = n := by rw [hI.len]; exact hv
      have hed : Ed g i k := ⟨g[i], el, by rw [e]; simp⟩
      have hgd : Nat.beq (Enc.encL s).length (Enc.encL z).length = true := by rw [Enc.len, Enc.len, hs, hz, Nat.beq_refl]
      have key : ∃ s', m39f13_l0 g (v0, (i : Int)) d z (s, (a.length : Int)) = some (.next (s', w64 ((a.length : Int) + 1))) ∧ Up (Ev d g) s s' (fun s t => cond d (t = i ∧ s = k) (s = i ∧ t = k)) := by
        unfold m39f13_l0
        dsimp only
        rw [idx_at el]
        simp only [Option.bind_some]
        rw [show idx g[i] (a.length : Int) = some ((k : Nat) : Int) from by rw [e, idx_mid], show decide ((a.length : Int) < (g[i].length : Int)) = true from by rw [e, lt_mid]]
        cases d with
        | true =>
          rcases on_cases (b := s) (i := k) (by omega) with ⟨e2, ho⟩ | ⟨e2, ho⟩
          · obtain ⟨y, e3⟩ : ∃ y, s[i]? = some y := ⟨_, List.getElem?_eq_getElem (by omega)⟩
            simp only [cond_true, Option.bind_some, idx_at e2, idx_at e3, hgd, guardO, Bool.not_true, cond_false, Int.toNat_natCast]
            exact ⟨_, rfl, (Up.set (E := Ev true g) (s := k) (t := i) (by omega) hed ho).trans (.refl (T := fun _ _ => False) fun _ _ h => h.elim) fun s t h => .inl ⟨h.2, h.1⟩⟩
          · simp only [cond_true, Option.bind_some, idx_at e2, hgd, guardO, Bool.not_true, cond_false]
            exact ⟨_, rfl, .refl fun s t h hs => absurd (h.2 ▸ hs) ho⟩
        | false =>
          rcases on_cases (b := s) (i := i) (by omega) with ⟨e2, ho⟩ | ⟨e2, ho⟩
          · obtain ⟨y, e3⟩ : ∃ y, s[k]? = some y := ⟨_, List.getElem?_eq_getElem (by omega)⟩
            simp only [cond_true, Option.bind_some, idx_at e2, idx_at e3, hgd, guardO, Bool.not_false, cond_false, Int.toNat_natCast]
            exact ⟨_, rfl, (Up.set (E := Ev false g) (s := i) (t := k) (by omega) hed ho).trans (.refl (T := fun _ _ => False) fun _ _ h => h.elim) fun s t h => .inl h⟩
          · simp only [cond_true, Option.bind_some, idx_at e2, hgd, guardO, Bool.not_false, cond_false]
            exact ⟨_, rfl, .refl fun s t h hs => absurd (h.1 ▸ hs) ho⟩
      obtain ⟨s', e2, h2⟩ := key
      refine .inr ⟨s', e2, hI.trans h2 fun x y h => ?_⟩
      cases d with
      | true =>
        obtain ⟨h3, h4⟩ := h
        rcases List.mem_append.1 h4 with h4 | h4
        · exact .inl ⟨h3, h4⟩
        · have := List.mem_singleton.1 h4
          exact .inr ⟨h3, by omega⟩
      | false =>
        obtain ⟨h3, h4⟩ := h
        rcases List.mem_append.1 h4 with h4 | h4
        · exact .inl ⟨h3, h4⟩
        · have := List.mem_singleton.1 h4
          exact .inr ⟨h3, by omega⟩)
    (fun s hI => ⟨s, by unfold m39f13_l0; dsimp only; rw [idx_at el]; simp only [Option.bind_some]; rw [lt_end]; rfl, hI⟩) v
    (.refl fun s t h _ => by cases d <;> exact absurd h.2 (by simp))
  refine ⟨r, e1, h1.trans (.refl (T := fun _ _ => False) fun _ _ h => h.elim) fun s t h => .inl ?_⟩
  cases d with
  | true =>
    obtain ⟨h3, l, h4, h5⟩ := h
    rw [el] at h4; cases h4
    exact ⟨h3, h5⟩
  | false =>
    obtain ⟨h3, l, h4, h5⟩ := h
    rw [el] at h4; cases h4
    exact ⟨h3, h5⟩
theorem pass {g : List (List Int)} {n B : Nat} (hg : GrB g n B) (hB : B ≤ 900000000) (hn : n ≤ 900000000) (d : Bool) (z : List Bool) (hz : z.length = n) (v : List Bool) (hv : v.length = n) :
    ∃ r, loopN (m39f13_l1 g d z) FUEL (v, 0) = some r ∧ Up (Ev d g) v r (Ev d g) := by
  obtain ⟨r, e1, h1⟩ := loop_all (step := m39f13_l1 g d z) g (fun k s => (s, k))
    (fun a s => Up (Ev d g) v s (fun s t => cond d (t < a.length ∧ Ed g t s) (s < a.length ∧ Ed g s t))) (fun r => Up (Ev d g) v r (fun s t => cond d (t < g.length ∧ Ed g t s) (s < g.length ∧ Ed g s t))) (by rw [hg.1]; exact hn)
    (fun a x c s e hI => by
      have hal : a.length < n := by rw [← hg.1]; exact mid_lt e
      obtain ⟨s', e2, h2⟩ := row_pass hg hB d z hz 0 s (by rw [hI.len]; exact hv) a.length hal s
      refine .inr ⟨s', ?_, hI.trans h2 fun x y h => ?_⟩
      · unfold m39f13_l1
        dsimp only
        rw [show decide ((a.length : Int) < (g.length : Int)) = true from by rw [e, lt_mid]]
        simp only [cond_true]
        rw [e2]; rfl
      · simp only [List.length_append, List.length_singleton] at h
        cases d with
        | true =>
          obtain ⟨h3, h4⟩ := h
          by_cases h5 : y = a.length
          · exact .inr ⟨h5, h5 ▸ h4⟩
          · exact .inl ⟨by omega, h4⟩
        | false =>
          obtain ⟨h3, h4⟩ := h
          by_cases h5 : x = a.length
          · exact .inr ⟨h5, h5 ▸ h4⟩
          · exact .inl ⟨by omega, h4⟩)
    (fun s hI => ⟨s, by unfold m39f13_l1; dsimp only; rw [lt_end]; rfl, hI⟩) v (.refl fun s t h _ => by cases d <;> exact absurd h.1 (Nat.not_lt_zero _))
  refine ⟨r, e1, h1.trans (.refl (T := fun _ _ => False) fun _ _ h => h.elim) fun s t h => .inl ?_⟩
  cases d with
  | true => exact ⟨by rw [hg.1]; exact (h.lt hg).1, h⟩
  | false => exact ⟨by rw [hg.1]; exact (h.lt hg).1, h⟩
theorem spread_eq {g : List (List Int)} {n B : Nat} (hg : GrB g n B) (hB : B ≤ 900000000) (hn : n ≤ 900000000) (d : Bool) (z : List Bool) (hz : z.length = n) :
    ∃ b, m39f13 g z d = some b ∧ Least (Ev d g) n (On z) b := by
  have hlt : ∀ {s t}, Ev d g s t → t < n := fun {s t} h => by
    cases d with
    | true => exact (Ed.lt hg h).1
    | false => exact (Ed.lt hg h).2
  unfold m39f13
  obtain ⟨r, e1, h1, h2⟩ := loop_all (step := m39f13_l2 g d z) g (fun k s => (s, k))
    (fun a s => Up (Ev d g) z s (fun _ _ => False) ∧ (Closed (Ev d g) (On s) ∨ cnt s + a.length ≤ n)) (fun r => Up (Ev d g) z r (fun _ _ => False) ∧ (Closed (Ev d g) (On r) ∨ cnt r + g.length ≤ n)) (by rw [hg.1]; exact hn)
    (fun a x c s e hI => by
      obtain ⟨hI, hc⟩ := hI
      have hsn : s.length = n := by rw [hI.len]; exact hz
      obtain ⟨s', e2, h2⟩ := pass hg hB hn d z hz s hsn
      refine .inr ⟨s', ?_, hI.trans h2 fun x y h => h.elim, ?_⟩
      · unfold m39f13_l2
        dsimp only
        rw [show decide ((a.length : Int) < (g.length : Int)) = true from by rw [e, lt_mid]]
        simp only [cond_true]
        rw [e2]; rfl
      · have hm := cnt_mono s s' h2.len.symm h2.mono
        by_cases hq : cnt s' = cnt s
        · have := cnt_eq s s' h2.len.symm h2.mono hq
          subst this
          exact .inl fun i j e hi => h2.stp i j e hi
        · rcases hc with hc | hc
          · refine .inl fun i j e hi => h2.mono j (hc i j e (h2.min (On s) hc (fun _ h => h) i hi))
          · refine .inr ?_
            rw [List.length_append, List.length_singleton]; omega)
    (fun s hI => ⟨s, by unfold m39f13_l2; dsimp only; rw [lt_end]; rfl, hI⟩) z ⟨.refl fun _ _ h => h.elim, .inr (by have := cnt_le z; simp only [List.length_nil]; omega)⟩
  rw [e1]
  simp only [Option.bind_some]
  rw [show Nat.beq (Enc.encL r).length (Enc.encL z).length = true from by rw [Enc.len, Enc.len, h1.len, Nat.beq_refl]]
  refine ⟨r, rfl, ⟨by rw [h1.len]; exact hz, h1.mono, ?_, fun C hS hC => h1.min C hC hS⟩⟩
  rcases h2 with h2 | h2
  · exact h2
  · intro i j e hi
    have := hg.1
    exact cnt_zero r (by omega) j (by rw [h1.len, hz]; exact hlt e)
theorem GrB.set {rv : List (List Int)} {n B : Nat} (h : GrB rv n B) {j i : Nat} {l : List Int} (hj : rv[j]? = some l) (hi : i < n) (hl : l.length < B) : GrB (rv.set j (l ++ [(i : Int)])) n B := by
  refine ⟨by rw [List.length_set]; exact h.1, fun m hm => ?_⟩
  rcases List.mem_or_eq_of_mem_set hm with hm | rfl
  · exact h.2 m hm
  · obtain ⟨h1, h2⟩ := h.2 l (List.mem_of_getElem? hj)
    refine ⟨by simp; omega, fun x hx => ?_⟩
    rcases List.mem_append.1 hx with hx | hx
    · exact h2 x hx
    · exact ⟨i, hi, List.mem_singleton.1 hx⟩
theorem GrB.le {rv : List (List Int)} {n B B' : Nat} (h : GrB rv n B) (hB : B ≤ B') : GrB rv n B' := ⟨h.1, fun l hl => ⟨Nat.le_trans (h.2 l hl).1 hB, (h.2 l hl).2⟩⟩
theorem Ed.set {rv : List (List Int)} {j i : Nat} {l : List Int} (hj : rv[j]? = some l) (a b : Nat) : Ed (rv.set j (l ++ [(i : Int)])) a b ↔ Ed rv a b ∨ (a = j ∧ b = i) := by
  unfold Ed
  have hjl := (List.getElem?_eq_some_iff.1 hj).1
  rw [List.getElem?_set]
  by_cases e : j = a
  · subst e
    rw [if_pos rfl, if_pos hjl, hj]
    constructor
    · rintro ⟨m, hm, hb⟩
      cases hm
      rcases List.mem_append.1 hb with hb | hb
      · exact .inl ⟨l, rfl, hb⟩
      · have := List.mem_singleton.1 hb
        exact .inr ⟨rfl, by omega⟩
    · rintro (⟨m, hm, hb⟩ | ⟨-, rfl⟩)
      · cases hm; exact ⟨_, rfl, List.mem_append_left _ hb⟩
      · exact ⟨_, rfl, by simp⟩
  · rw [if_neg e]
    exact ⟨.inl, fun h => h.elim id fun h => absurd h.1.symm e⟩
theorem turn_row {g : List (List Int)} {n : Nat} (hn : n ≤ 1000) (hgl : g.length = n) (x : List Int) (hx : x.length ≤ n) (hx2 : ∀ j ∈ x, ∃ k : Nat, k < n ∧ j = (k : Int)) (i B : Nat) (hi : i < n) (hB : B ≤ 900000000) (rv : List (List Int)) (hr : GrB rv n B) :
    ∃ r, loopN (m36_l0 x g ((i : Int), rv)) FUEL (0, rv) = some r ∧ GrB r n (B + n) ∧ ∀ a b, Ed r a b ↔ Ed rv a b ∨ ((a : Int) ∈ x ∧ b = i) := by
  obtain ⟨r, e1, h1, h2⟩ := loop_all (step := m36_l0 x g ((i : Int), rv)) x (fun k s => (k, s))
    (fun p s => GrB s n (B + p.length) ∧ ∀ a b, Ed s a b ↔ Ed rv a b ∨ ((a : Int) ∈ p ∧ b = i)) (fun r => GrB r n (B + x.length) ∧ ∀ a b, Ed r a b ↔ Ed rv a b ∨ ((a : Int) ∈ x ∧ b = i)) (by omega)
    (fun p y c s e hI => by
      obtain ⟨hI, hE⟩ := hI
      obtain ⟨k, hk, rfl⟩ := hx2 y (by rw [e]; simp)
      have hpx := mid_lt e
      have hks : k < s.length := by rw [hI.1]; exact hk
      have ek : s[k]? = some s[k] := List.getElem?_eq_getElem hks
      have hlk := (hI.2 s[k] (List.getElem_mem _)).1
      refine .inr ⟨s.set k (s[k] ++ [(i : Int)]), ?_, ?_, ?_⟩
      · unfold m36_l0
        dsimp only
        rw [e, lt_mid, idx_mid]
        simp only [cond_true, Option.bind_some]
        rw [idx_at ek]
        simp only [Option.bind_some, Int.toNat_natCast]
        rw [guard_eq (by rw [hI.1, hgl]), guard_le (by rw [hI.1]; exact hn), guard_le (by simp; omega), guard_eq (by rw [hI.1, hgl]), guard_le (by rw [hI.1]; exact hn)]
      · rw [List.length_append, List.length_singleton, ← Nat.add_assoc]
        exact (hI.le (Nat.le_succ _)).set ek hi (by omega)
      · intro a b
        rw [Ed.set ek, hE, List.mem_append, List.mem_singleton]
        constructor
        · rintro ((h | ⟨h, h'⟩) | ⟨h, h'⟩)
          · exact .inl h
          · exact .inr ⟨.inl h, h'⟩
          · exact .inr ⟨.inr (by omega), h'⟩
        · rintro (h | ⟨h | h, h'⟩)
          · exact .inl (.inl h)
          · exact .inl (.inr ⟨h, h'⟩)
          · exact .inr ⟨by omega, h'⟩)
    (fun s hI => ⟨s, by unfold m36_l0; dsimp only; rw [lt_end]; rfl, hI⟩) rv ⟨hr, fun a b => ⟨.inl, fun h => h.elim id fun h => absurd h.1 (by simp)⟩⟩
  exact ⟨r, e1, h1.le (by omega), h2⟩
theorem m36_eq {g : List (List Int)} {n : Nat} (hg : GrB g n n) (hn : n ≤ 1000) : ∃ rv, m36 g = some rv ∧ GrB rv n (n * n) ∧ ∀ i j, Ed rv i j ↔ Ed g j i := by
  have hnn : n * n ≤ 1000 * 1000 := Nat.mul_le_mul hn hn
  unfold m36
  rw [hg.1]
  simp only [Int.toNat_natCast]
  rw [show decide (0 ≤ (n : Int)) = true from by rw [decide_eq_true_eq]; omega]
  simp only [cond_true]
  rw [guard_le hn]
  obtain ⟨r, e1, h1, h2⟩ := loop_all (step := m36_l1 g) g (fun k s => (k, s))
    (fun p s => GrB s n (p.length * n) ∧ ∀ a b, Ed s a b ↔ b < p.length ∧ Ed g b a) (fun r => GrB r n (g.length * n) ∧ ∀ a b, Ed r a b ↔ b < g.length ∧ Ed g b a) (by rw [hg.1]; omega)
    (fun p x c s e hI => by
      obtain ⟨hI, hE⟩ := hI
      have hpn : p.length < n := by rw [← hg.1]; exact mid_lt e
      have hxg := hg.2 x (by rw [e]; simp)
      have ep : g[p.length]? = some x := by rw [e]; simp
      obtain ⟨s', e2, h2, h3⟩ := turn_row hn hg.1 x hxg.1 hxg.2 p.length (p.length * n) hpn (by have := Nat.mul_le_mul_right n (Nat.le_of_lt hpn); omega) s hI
      refine .inr ⟨s', ?_, ?_, ?_⟩
      · unfold m36_l1
        dsimp only
        rw [show decide ((p.length : Int) < (g.length : Int)) = true from by rw [e, lt_mid], show idx g (p.length : Int) = some x from idx_at ep]
        simp only [cond_true, Option.bind_some]
        rw [e2]; rfl
      · rw [List.length_append, List.length_singleton, Nat.succ_mul]
        exact h2
      · intro a b
        rw [h3, hE, List.length_append, List.length_singleton]
        constructor
        · rintro (⟨h, h'⟩ | ⟨h, rfl⟩)
          · exact ⟨by omega, h'⟩
          · exact ⟨by omega, x, ep, h⟩
        · rintro ⟨h, h'⟩
          by_cases hb : b = p.length
          · subst hb
            obtain ⟨l, h4, h5⟩ := h'
            rw [ep] at h4; cases h4
            exact .inr ⟨h5, rfl⟩
          · exact .inl ⟨by omega, h'⟩)
    (fun s hI => ⟨s, by unfold m36_l1; dsimp only; rw [lt_end]; rfl, hI⟩) (List.replicate n []) ⟨⟨by simp, fun l hl => by rw [List.eq_of_mem_replicate hl]; exact ⟨Nat.zero_le _, fun j hj => by cases hj⟩⟩, fun a b => by
      constructor
      · rintro ⟨l, h1, h2⟩
        rw [List.getElem?_replicate] at h1
        split at h1
        · cases h1; cases h2
        · cases h1
      · rintro ⟨h, -⟩; exact absurd h (by simp)⟩
  rw [e1]
  simp only [Option.bind_some]
  rw [guard_eq h1.1, ← hg.1]
  rw [hg.1] at h1
  refine ⟨r, rfl, by rw [hg.1]; exact h1, fun i j => (h2 i j).trans ⟨fun h => h.2, fun h => ⟨by rw [hg.1]; exact (h.lt hg).1, h⟩⟩⟩
end Go.Proofs.Ytijcchddnnnmdaa
