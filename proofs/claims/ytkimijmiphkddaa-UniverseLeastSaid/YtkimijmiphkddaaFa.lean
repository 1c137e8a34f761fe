/- slices.IndexFunc and ContainsFunc; level.covered and Valid; the reference Valid. -/
import Derived.Test.YtkimijmiphkddaaTab
namespace Go.Proofs.Ytkimijmiphkddaa
open Go.RowKit
set_option linter.unusedSimpArgs false
set_option linter.unusedVariables false

set_option maxRecDepth 100000 in
theorem indexLV (l : List LV) (p : LV → Bool) (f : FuncId) (caps : List (List C × Nat)) (hlen : l.length ≤ 100000) (hf : ∀ x ∈ l, Fun Try.prog f ([lvA x] ++ caps.map fun q => .one (.pel q.1 q.2)) (TB (p x))) : Fun Try.prog 84 [.one (.d (.sl 2 (l.map lvC))), .one (.clo f caps)] (TI (idxOf p l)) := by
  refine Fun.of_body 9 19 Try.func84 rfl en_84 rfl (lb rfl) (fun S w => ?_)
  simp only [entry]
  refine XC.seq <| XC.region <| oA rfl rfl <| XL.nil <| XQ.seq <| XC.seq <| XC.seq <| XC.region <| oM rfl rfl ?_
  refine XL.op rfl (XO.of_ro rfl (lb rfl) (RO.len sl_37 rfl (by repeat' constructor))) ?_
  refine oM rfl rfl <| XL.nil <| XQ.seq <| XC.block ?_
  refine XC.loop (X := Nat) (fun k => ⟨[(0, .v (.one (.d (.sl 2 (l.map lvC))))), (1, .v (.one (.clo f caps))), (7, TI (l.map lvC).length), (8, TI k)], [], [], 0, 19, []⟩) (fun k => k ≤ l.length ∧ ∀ (i : Nat) (x : LV), i < k → l[i]? = some x → p x = false) (fun k => l.length - k) 0 ⟨(by repeat' constructor), (by repeat' constructor), (by repeat (first | exact trivial | refine ⟨(by intro T h; first | (cases h; rfl) | cases h), ?_⟩)), (lb rfl), Nat.zero_le _, rfl, rfl, (by simp [tmBelow, TV.below, AV.below, CA.below]), (by simp [hpBelow, HB.below, CA.below]), (by simp [tkBelow]), (by simp)⟩ ⟨Nat.zero_le _, fun i e h => absurd h (Nat.not_lt_zero i)⟩ ?_
  rintro k ⟨hk, hn⟩
  try dsimp only
  refine XC.seq <| XC.region <| oR rfl rfl rfl (RO.cmp rfl rfl rfl) <| XL.nil <| XQ.seq <| XC.seq ?_
  refine XC.cond rfl (fun c1 => ?_) (fun c1 => ?_)
  ·
    replace c1 := prs c1
    simp only [List.length_map] at c1
    have hlt : k < l.length := by omega
    obtain ⟨x, hx⟩ : ∃ x, l[k]? = some x := ⟨_, List.getElem?_eq_getElem hlt⟩
    refine XC.skip <| XQ.seq <| XC.seq <| XC.block <| XC.seq <| XC.region <| oM rfl rfl <| oA rfl rfl <| XL.nil <| XQ.seq <| XC.seq <| XC.region <| oM rfl rfl <| oM rfl rfl ?_
    refine oM rfl rfl ?_
    refine XL.op rfl (XO.of_ro rfl (lb rfl) (RO.index sl_37 rfl (by repeat' constructor) rfl rfl (map_get hx))) ?_
    first | refine oR rfl rfl rfl (RO.loadOwnAgg ag_59 rfl rfl rfl rfl) ?_ | refine oR rfl rfl rfl (RO.loadPelAgg ag_59 rfl rfl rfl) ?_
    refine XL.op rfl (XO.callB1 (.inr ⟨_, _, rfl, rfl, rfl⟩) (hf x (List.mem_of_getElem? hx)) (by first | exact Plain.v _ rfl | exact Plain.tup [_, _] (by simp [Value.oneCell'])) rfl (by repeat' constructor) (lb rfl)) ?_
    refine XL.nil <| XQ.seq ?_
    refine XC.cond rfl (fun c2 => ?_) (fun c2 => ?_)
    ·
      replace c2 := prs c2
      refine XC.seq <| XC.region <| oM rfl rfl <| oA rfl rfl <| XL.nil <| XQ.seq <| XC.ret ?_
      refine XQ.ret1 (fun _ _ h => h) rfl (RA.tmp rfl) ?s0 rfl
      case s0 => (rw [idxOf_at p l k x hx c2 hn]); exact (by repeat' constructor)
    ·
      replace c2 := prs c2
      refine XC.skip <| XQ.inBlock <| XQ.seq <| XC.region ?_
      refine XL.op rfl (XO.of_ro rfl (lb rfl) (RO.arith rfl rfl rfl (by omega) (by omega))) ?_
      refine oM rfl rfl <| XL.nil ?_
      refine XQ.next (k + 1) ⟨(by repeat' constructor), (by repeat' constructor), (by repeat (first | exact trivial | refine ⟨(by intro T h; first | (cases h; rfl) | cases h), ?_⟩)), (lb rfl), Nat.zero_le _, rfl, rfl, (by simp [tmBelow, TV.below, AV.below, CA.below]), (by simp [hpBelow, HB.below, CA.below]), (by simp [tkBelow]), (by simp)⟩ ⟨by omega, ?_⟩ (by omega)
      intro i y hi hy
      rcases Nat.lt_or_ge i k with h | h
      · exact hn i y h hy
      · obtain rfl : i = k := by omega
        rw [hx] at hy; cases hy; exact c2
  ·
    replace c1 := prs c1
    refine XC.exit <| XQ.thenE <| XQ.thenE <| XQ.blockX <| XQ.seq <| XC.seq <| XC.region <| oA rfl rfl <| XL.nil <| XQ.seq <| XC.ret ?_
    refine XQ.ret1 (fun _ _ h => h) rfl (RA.tmp rfl) ?s0 rfl
    case s0 => (rw [idxOf_none p l (fun i y hy => hn i y (by have := (List.getElem?_eq_some_iff.1 hy).1; simp only [List.length_map] at c1; omega) hy)]); exact (by repeat' constructor)

set_option maxRecDepth 100000 in
theorem containsLV (l : List LV) (p : LV → Bool) (f : FuncId) (caps : List (List C × Nat)) (hlen : l.length ≤ 100000) (hf : ∀ x ∈ l, Fun Try.prog f ([lvA x] ++ caps.map fun q => .one (.pel q.1 q.2)) (TB (p x))) : Fun Try.prog 70 [.one (.d (.sl 2 (l.map lvC))), .one (.clo f caps)] (TB (l.any p)) := by
  refine Fun.of_body 9 9 Try.func70 rfl en_70 rfl (lb rfl) (fun S w => ?_)
  simp only [entry]
  refine XC.seq <| XC.region <| oA rfl rfl <| XL.nil <| XQ.seq <| XC.seq <| XC.region <| oM rfl rfl <| oM rfl rfl ?_
  refine XL.op rfl (XO.callB2 (.inl ⟨rfl, rfl⟩) (indexLV l p f caps hlen hf) (by first | exact Plain.v _ rfl | exact Plain.tup [_, _] (by simp [Value.oneCell'])) rfl (by repeat' constructor) rfl (by repeat' constructor) (lb rfl)) ?_
  refine oR rfl rfl rfl (RO.cmp rfl rfl rfl) <| oA rfl rfl <| XL.nil <| XQ.seq <| XC.ret ?_
  refine XQ.ret1 (fun _ _ h => h) rfl (RA.tmp rfl) ?s0 rfl
  case s0 => (rw [← idxOf_pos p l]); exact (by repeat' constructor)

set_option maxRecDepth 100000 in
theorem indexLvl (l : List Lvl) (p : Lvl → Bool) (f : FuncId) (caps : List (List C × Nat)) (hlen : l.length ≤ 100000) (hf : ∀ x ∈ l, Fun Try.prog f ([lvlA x] ++ caps.map fun q => .one (.pel q.1 q.2)) (TB (p x))) : Fun Try.prog 88 [.one (.d (.sl 2 (l.map lvlC))), .one (.clo f caps)] (TI (idxOf p l)) := by
  refine Fun.of_body 9 19 Try.func88 rfl en_88 rfl (lb rfl) (fun S w => ?_)
  simp only [entry]
  refine XC.seq <| XC.region <| oA rfl rfl <| XL.nil <| XQ.seq <| XC.seq <| XC.seq <| XC.region <| oM rfl rfl ?_
  refine XL.op rfl (XO.of_ro rfl (lb rfl) (RO.len sl_31 rfl (by repeat' constructor))) ?_
  refine oM rfl rfl <| XL.nil <| XQ.seq <| XC.block ?_
  refine XC.loop (X := Nat) (fun k => ⟨[(0, .v (.one (.d (.sl 2 (l.map lvlC))))), (1, .v (.one (.clo f caps))), (7, TI (l.map lvlC).length), (8, TI k)], [], [], 0, 19, []⟩) (fun k => k ≤ l.length ∧ ∀ (i : Nat) (x : Lvl), i < k → l[i]? = some x → p x = false) (fun k => l.length - k) 0 ⟨(by repeat' constructor), (by repeat' constructor), (by repeat (first | exact trivial | refine ⟨(by intro T h; first | (cases h; rfl) | cases h), ?_⟩)), (lb rfl), Nat.zero_le _, rfl, rfl, (by simp [tmBelow, TV.below, AV.below, CA.below]), (by simp [hpBelow, HB.below, CA.below]), (by simp [tkBelow]), (by simp)⟩ ⟨Nat.zero_le _, fun i e h => absurd h (Nat.not_lt_zero i)⟩ ?_
  rintro k ⟨hk, hn⟩
  try dsimp only
  refine XC.seq <| XC.region <| oR rfl rfl rfl (RO.cmp rfl rfl rfl) <| XL.nil <| XQ.seq <| XC.seq ?_
  refine XC.cond rfl (fun c1 => ?_) (fun c1 => ?_)
  ·
    replace c1 := prs c1
    simp only [List.length_map] at c1
    have hlt : k < l.length := by omega
    obtain ⟨x, hx⟩ : ∃ x, l[k]? = some x := ⟨_, List.getElem?_eq_getElem hlt⟩
    refine XC.skip <| XQ.seq <| XC.seq <| XC.block <| XC.seq <| XC.region <| oM rfl rfl <| oA rfl rfl <| XL.nil <| XQ.seq <| XC.seq <| XC.region <| oM rfl rfl <| oM rfl rfl ?_
    refine oM rfl rfl ?_
    refine XL.op rfl (XO.of_ro rfl (lb rfl) (RO.index sl_31 rfl (by repeat' constructor) rfl rfl (map_get hx))) ?_
    first | refine oR rfl rfl rfl (RO.loadOwnAgg ag_39 rfl rfl rfl rfl) ?_ | refine oR rfl rfl rfl (RO.loadPelAgg ag_39 rfl rfl rfl) ?_
    refine XL.op rfl (XO.callB1 (.inr ⟨_, _, rfl, rfl, rfl⟩) (hf x (List.mem_of_getElem? hx)) (by first | exact Plain.v _ rfl | exact Plain.tup [_, _] (by simp [Value.oneCell'])) rfl (by repeat' constructor) (lb rfl)) ?_
    refine XL.nil <| XQ.seq ?_
    refine XC.cond rfl (fun c2 => ?_) (fun c2 => ?_)
    ·
      replace c2 := prs c2
      refine XC.seq <| XC.region <| oM rfl rfl <| oA rfl rfl <| XL.nil <| XQ.seq <| XC.ret ?_
      refine XQ.ret1 (fun _ _ h => h) rfl (RA.tmp rfl) ?s0 rfl
      case s0 => (rw [idxOf_at p l k x hx c2 hn]); exact (by repeat' constructor)
    ·
      replace c2 := prs c2
      refine XC.skip <| XQ.inBlock <| XQ.seq <| XC.region ?_
      refine XL.op rfl (XO.of_ro rfl (lb rfl) (RO.arith rfl rfl rfl (by omega) (by omega))) ?_
      refine oM rfl rfl <| XL.nil ?_
      refine XQ.next (k + 1) ⟨(by repeat' constructor), (by repeat' constructor), (by repeat (first | exact trivial | refine ⟨(by intro T h; first | (cases h; rfl) | cases h), ?_⟩)), (lb rfl), Nat.zero_le _, rfl, rfl, (by simp [tmBelow, TV.below, AV.below, CA.below]), (by simp [hpBelow, HB.below, CA.below]), (by simp [tkBelow]), (by simp)⟩ ⟨by omega, ?_⟩ (by omega)
      intro i y hi hy
      rcases Nat.lt_or_ge i k with h | h
      · exact hn i y h hy
      · obtain rfl : i = k := by omega
        rw [hx] at hy; cases hy; exact c2
  ·
    replace c1 := prs c1
    refine XC.exit <| XQ.thenE <| XQ.thenE <| XQ.blockX <| XQ.seq <| XC.seq <| XC.region <| oA rfl rfl <| XL.nil <| XQ.seq <| XC.ret ?_
    refine XQ.ret1 (fun _ _ h => h) rfl (RA.tmp rfl) ?s0 rfl
    case s0 => (rw [idxOf_none p l (fun i y hy => hn i y (by have := (List.getElem?_eq_some_iff.1 hy).1; simp only [List.length_map] at c1; omega) hy)]); exact (by repeat' constructor)

set_option maxRecDepth 100000 in
theorem containsLvl (l : List Lvl) (p : Lvl → Bool) (f : FuncId) (caps : List (List C × Nat)) (hlen : l.length ≤ 100000) (hf : ∀ x ∈ l, Fun Try.prog f ([lvlA x] ++ caps.map fun q => .one (.pel q.1 q.2)) (TB (p x))) : Fun Try.prog 80 [.one (.d (.sl 2 (l.map lvlC))), .one (.clo f caps)] (TB (l.any p)) := by
  refine Fun.of_body 9 9 Try.func80 rfl en_80 rfl (lb rfl) (fun S w => ?_)
  simp only [entry]
  refine XC.seq <| XC.region <| oA rfl rfl <| XL.nil <| XQ.seq <| XC.seq <| XC.region <| oM rfl rfl <| oM rfl rfl ?_
  refine XL.op rfl (XO.callB2 (.inl ⟨rfl, rfl⟩) (indexLvl l p f caps hlen hf) (by first | exact Plain.v _ rfl | exact Plain.tup [_, _] (by simp [Value.oneCell'])) rfl (by repeat' constructor) rfl (by repeat' constructor) (lb rfl)) ?_
  refine oR rfl rfl rfl (RO.cmp rfl rfl rfl) <| oA rfl rfl <| XL.nil <| XQ.seq <| XC.ret ?_
  refine XQ.ret1 (fun _ _ h => h) rfl (RA.tmp rfl) ?s0 rfl
  case s0 => (rw [← idxOf_pos p l]); exact (by repeat' constructor)

set_option maxRecDepth 100000 in
theorem indexBnd (l : List Bnd) (p : Bnd → Bool) (f : FuncId) (caps : List (List C × Nat)) (hlen : l.length ≤ 100000) (hf : ∀ x ∈ l, Fun Try.prog f ([bndA x] ++ caps.map fun q => .one (.pel q.1 q.2)) (TB (p x))) : Fun Try.prog 59 [.one (.d (.sl 4 (l.map bndC))), .one (.clo f caps)] (TI (idxOf p l)) := by
  refine Fun.of_body 9 19 Try.func59 rfl en_59 rfl (lb rfl) (fun S w => ?_)
  simp only [entry]
  refine XC.seq <| XC.region <| oA rfl rfl <| XL.nil <| XQ.seq <| XC.seq <| XC.seq <| XC.region <| oM rfl rfl ?_
  refine XL.op rfl (XO.of_ro rfl (lb rfl) (RO.len sl_22 rfl (by repeat' constructor))) ?_
  refine oM rfl rfl <| XL.nil <| XQ.seq <| XC.block ?_
  refine XC.loop (X := Nat) (fun k => ⟨[(0, .v (.one (.d (.sl 4 (l.map bndC))))), (1, .v (.one (.clo f caps))), (7, TI (l.map bndC).length), (8, TI k)], [], [], 0, 19, []⟩) (fun k => k ≤ l.length ∧ ∀ (i : Nat) (x : Bnd), i < k → l[i]? = some x → p x = false) (fun k => l.length - k) 0 ⟨(by repeat' constructor), (by repeat' constructor), (by repeat (first | exact trivial | refine ⟨(by intro T h; first | (cases h; rfl) | cases h), ?_⟩)), (lb rfl), Nat.zero_le _, rfl, rfl, (by simp [tmBelow, TV.below, AV.below, CA.below]), (by simp [hpBelow, HB.below, CA.below]), (by simp [tkBelow]), (by simp)⟩ ⟨Nat.zero_le _, fun i e h => absurd h (Nat.not_lt_zero i)⟩ ?_
  rintro k ⟨hk, hn⟩
  try dsimp only
  refine XC.seq <| XC.region <| oR rfl rfl rfl (RO.cmp rfl rfl rfl) <| XL.nil <| XQ.seq <| XC.seq ?_
  refine XC.cond rfl (fun c1 => ?_) (fun c1 => ?_)
  ·
    replace c1 := prs c1
    simp only [List.length_map] at c1
    have hlt : k < l.length := by omega
    obtain ⟨x, hx⟩ : ∃ x, l[k]? = some x := ⟨_, List.getElem?_eq_getElem hlt⟩
    refine XC.skip <| XQ.seq <| XC.seq <| XC.block <| XC.seq <| XC.region <| oM rfl rfl <| oA rfl rfl <| XL.nil <| XQ.seq <| XC.seq <| XC.region <| oM rfl rfl <| oM rfl rfl ?_
    refine oM rfl rfl ?_
    refine XL.op rfl (XO.of_ro rfl (lb rfl) (RO.index sl_22 rfl (by repeat' constructor) rfl rfl (map_get hx))) ?_
    first | refine oR rfl rfl rfl (RO.loadOwnAgg ag_41 rfl rfl rfl rfl) ?_ | refine oR rfl rfl rfl (RO.loadPelAgg ag_41 rfl rfl rfl) ?_
    refine XL.op rfl (XO.callB1 (.inr ⟨_, _, rfl, rfl, rfl⟩) (hf x (List.mem_of_getElem? hx)) (by first | exact Plain.v _ rfl | exact Plain.tup [_, _] (by simp [Value.oneCell'])) rfl (by repeat' constructor) (lb rfl)) ?_
    refine XL.nil <| XQ.seq ?_
    refine XC.cond rfl (fun c2 => ?_) (fun c2 => ?_)
    ·
      replace c2 := prs c2
      refine XC.seq <| XC.region <| oM rfl rfl <| oA rfl rfl <| XL.nil <| XQ.seq <| XC.ret ?_
      refine XQ.ret1 (fun _ _ h => h) rfl (RA.tmp rfl) ?s0 rfl
      case s0 => (rw [idxOf_at p l k x hx c2 hn]); exact (by repeat' constructor)
    ·
      replace c2 := prs c2
      refine XC.skip <| XQ.inBlock <| XQ.seq <| XC.region ?_
      refine XL.op rfl (XO.of_ro rfl (lb rfl) (RO.arith rfl rfl rfl (by omega) (by omega))) ?_
      refine oM rfl rfl <| XL.nil ?_
      refine XQ.next (k + 1) ⟨(by repeat' constructor), (by repeat' constructor), (by repeat (first | exact trivial | refine ⟨(by intro T h; first | (cases h; rfl) | cases h), ?_⟩)), (lb rfl), Nat.zero_le _, rfl, rfl, (by simp [tmBelow, TV.below, AV.below, CA.below]), (by simp [hpBelow, HB.below, CA.below]), (by simp [tkBelow]), (by simp)⟩ ⟨by omega, ?_⟩ (by omega)
      intro i y hi hy
      rcases Nat.lt_or_ge i k with h | h
      · exact hn i y h hy
      · obtain rfl : i = k := by omega
        rw [hx] at hy; cases hy; exact c2
  ·
    replace c1 := prs c1
    refine XC.exit <| XQ.thenE <| XQ.thenE <| XQ.blockX <| XQ.seq <| XC.seq <| XC.region <| oA rfl rfl <| XL.nil <| XQ.seq <| XC.ret ?_
    refine XQ.ret1 (fun _ _ h => h) rfl (RA.tmp rfl) ?s0 rfl
    case s0 => (rw [idxOf_none p l (fun i y hy => hn i y (by have := (List.getElem?_eq_some_iff.1 hy).1; simp only [List.length_map] at c1; omega) hy)]); exact (by repeat' constructor)

set_option maxRecDepth 100000 in
theorem containsBnd (l : List Bnd) (p : Bnd → Bool) (f : FuncId) (caps : List (List C × Nat)) (hlen : l.length ≤ 100000) (hf : ∀ x ∈ l, Fun Try.prog f ([bndA x] ++ caps.map fun q => .one (.pel q.1 q.2)) (TB (p x))) : Fun Try.prog 35 [.one (.d (.sl 4 (l.map bndC))), .one (.clo f caps)] (TB (l.any p)) := by
  refine Fun.of_body 9 9 Try.func35 rfl en_35 rfl (lb rfl) (fun S w => ?_)
  simp only [entry]
  refine XC.seq <| XC.region <| oA rfl rfl <| XL.nil <| XQ.seq <| XC.seq <| XC.region <| oM rfl rfl <| oM rfl rfl ?_
  refine XL.op rfl (XO.callB2 (.inl ⟨rfl, rfl⟩) (indexBnd l p f caps hlen hf) (by first | exact Plain.v _ rfl | exact Plain.tup [_, _] (by simp [Value.oneCell'])) rfl (by repeat' constructor) rfl (by repeat' constructor) (lb rfl)) ?_
  refine oR rfl rfl rfl (RO.cmp rfl rfl rfl) <| oA rfl rfl <| XL.nil <| XQ.seq <| XC.ret ?_
  refine XQ.ret1 (fun _ _ h => h) rfl (RA.tmp rfl) ?s0 rfl
  case s0 => (rw [← idxOf_pos p l]); exact (by repeat' constructor)

set_option maxRecDepth 100000 in
theorem indexInt (l : List Int) (p : Int → Bool) (f : FuncId) (caps : List (List C × Nat)) (hlen : l.length ≤ 100000) (hf : ∀ x ∈ l, Fun Try.prog f ([.one (.d (.v (.int .i64 x)))] ++ caps.map fun q => .one (.pel q.1 q.2)) (TB (p x))) : Fun Try.prog 75 [.one (.d (.sl 1 (l.map intC))), .one (.clo f caps)] (TI (idxOf p l)) := by
  refine Fun.of_body 9 19 Try.func75 rfl en_75 rfl (lb rfl) (fun S w => ?_)
  simp only [entry]
  refine XC.seq <| XC.region <| oA rfl rfl <| XL.nil <| XQ.seq <| XC.seq <| XC.seq <| XC.region <| oM rfl rfl ?_
  refine XL.op rfl (XO.of_ro rfl (lb rfl) (RO.len sl_66 rfl (by repeat' constructor))) ?_
  refine oM rfl rfl <| XL.nil <| XQ.seq <| XC.block ?_
  refine XC.loop (X := Nat) (fun k => ⟨[(0, .v (.one (.d (.sl 1 (l.map intC))))), (1, .v (.one (.clo f caps))), (7, TI (l.map intC).length), (8, TI k)], [], [], 0, 19, []⟩) (fun k => k ≤ l.length ∧ ∀ (i : Nat) (x : Int), i < k → l[i]? = some x → p x = false) (fun k => l.length - k) 0 ⟨(by repeat' constructor), (by repeat' constructor), (by repeat (first | exact trivial | refine ⟨(by intro T h; first | (cases h; rfl) | cases h), ?_⟩)), (lb rfl), Nat.zero_le _, rfl, rfl, (by simp [tmBelow, TV.below, AV.below, CA.below]), (by simp [hpBelow, HB.below, CA.below]), (by simp [tkBelow]), (by simp)⟩ ⟨Nat.zero_le _, fun i e h => absurd h (Nat.not_lt_zero i)⟩ ?_
  rintro k ⟨hk, hn⟩
  try dsimp only
  refine XC.seq <| XC.region <| oR rfl rfl rfl (RO.cmp rfl rfl rfl) <| XL.nil <| XQ.seq <| XC.seq ?_
  refine XC.cond rfl (fun c1 => ?_) (fun c1 => ?_)
  ·
    replace c1 := prs c1
    simp only [List.length_map] at c1
    have hlt : k < l.length := by omega
    obtain ⟨x, hx⟩ : ∃ x, l[k]? = some x := ⟨_, List.getElem?_eq_getElem hlt⟩
    refine XC.skip <| XQ.seq <| XC.seq <| XC.block <| XC.seq <| XC.region <| oM rfl rfl <| oA rfl rfl <| XL.nil <| XQ.seq <| XC.seq <| XC.region <| oM rfl rfl <| oM rfl rfl ?_
    refine oM rfl rfl ?_
    refine XL.op rfl (XO.of_ro rfl (lb rfl) (RO.index sl_66 rfl (by repeat' constructor) rfl rfl (map_get hx))) ?_
    first | refine oR rfl rfl rfl (RO.loadOwn ag_3 rfl rfl rfl) ?_ | refine oR rfl rfl rfl (RO.loadPel ag_3 rfl rfl) ?_
    refine XL.op rfl (XO.callB1 (.inr ⟨_, _, rfl, rfl, rfl⟩) (hf x (List.mem_of_getElem? hx)) (by first | exact Plain.v _ rfl | exact Plain.tup [_, _] (by simp [Value.oneCell'])) rfl (by repeat' constructor) (lb rfl)) ?_
    refine XL.nil <| XQ.seq ?_
    refine XC.cond rfl (fun c2 => ?_) (fun c2 => ?_)
    ·
      replace c2 := prs c2
      refine XC.seq <| XC.region <| oM rfl rfl <| oA rfl rfl <| XL.nil <| XQ.seq <| XC.ret ?_
      refine XQ.ret1 (fun _ _ h => h) rfl (RA.tmp rfl) ?s0 rfl
      case s0 => (rw [idxOf_at p l k x hx c2 hn]); exact (by repeat' constructor)
    ·
      replace c2 := prs c2
      refine XC.skip <| XQ.inBlock <| XQ.seq <| XC.region ?_
      refine XL.op rfl (XO.of_ro rfl (lb rfl) (RO.arith rfl rfl rfl (by omega) (by omega))) ?_
      refine oM rfl rfl <| XL.nil ?_
      refine XQ.next (k + 1) ⟨(by repeat' constructor), (by repeat' constructor), (by repeat (first | exact trivial | refine ⟨(by intro T h; first | (cases h; rfl) | cases h), ?_⟩)), (lb rfl), Nat.zero_le _, rfl, rfl, (by simp [tmBelow, TV.below, AV.below, CA.below]), (by simp [hpBelow, HB.below, CA.below]), (by simp [tkBelow]), (by simp)⟩ ⟨by omega, ?_⟩ (by omega)
      intro i y hi hy
      rcases Nat.lt_or_ge i k with h | h
      · exact hn i y h hy
      · obtain rfl : i = k := by omega
        rw [hx] at hy; cases hy; exact c2
  ·
    replace c1 := prs c1
    refine XC.exit <| XQ.thenE <| XQ.thenE <| XQ.blockX <| XQ.seq <| XC.seq <| XC.region <| oA rfl rfl <| XL.nil <| XQ.seq <| XC.ret ?_
    refine XQ.ret1 (fun _ _ h => h) rfl (RA.tmp rfl) ?s0 rfl
    case s0 => (rw [idxOf_none p l (fun i y hy => hn i y (by have := (List.getElem?_eq_some_iff.1 hy).1; simp only [List.length_map] at c1; omega) hy)]); exact (by repeat' constructor)

set_option maxRecDepth 100000 in
theorem containsInt (l : List Int) (p : Int → Bool) (f : FuncId) (caps : List (List C × Nat)) (hlen : l.length ≤ 100000) (hf : ∀ x ∈ l, Fun Try.prog f ([.one (.d (.v (.int .i64 x)))] ++ caps.map fun q => .one (.pel q.1 q.2)) (TB (p x))) : Fun Try.prog 52 [.one (.d (.sl 1 (l.map intC))), .one (.clo f caps)] (TB (l.any p)) := by
  refine Fun.of_body 9 9 Try.func52 rfl en_52 rfl (lb rfl) (fun S w => ?_)
  simp only [entry]
  refine XC.seq <| XC.region <| oA rfl rfl <| XL.nil <| XQ.seq <| XC.seq <| XC.region <| oM rfl rfl <| oM rfl rfl ?_
  refine XL.op rfl (XO.callB2 (.inl ⟨rfl, rfl⟩) (indexInt l p f caps hlen hf) (by first | exact Plain.v _ rfl | exact Plain.tup [_, _] (by simp [Value.oneCell'])) rfl (by repeat' constructor) rfl (by repeat' constructor) (lb rfl)) ?_
  refine oR rfl rfl rfl (RO.cmp rfl rfl rfl) <| oA rfl rfl <| XL.nil <| XQ.seq <| XC.ret ?_
  refine XQ.ret1 (fun _ _ h => h) rfl (RA.tmp rfl) ?s0 rfl
  case s0 => (rw [← idxOf_pos p l]); exact (by repeat' constructor)

set_option maxRecDepth 100000 in
theorem covered1 (x : LV) (L : Lvl) : Fun Try.prog 74 [lvA x, .one (.pel (lvlC L) 0)] (TB (decide (L.c ≤ x.2))) := by
  refine Fun.of_body 9 9 Try.func74 rfl en_74 rfl (lb rfl) (fun S w => ?_)
  simp only [entry]
  refine XC.seq <| XC.region <| XL.op rfl (XO.box rfl (lb rfl)) <| oA rfl rfl <| XL.nil <| XQ.seq <| XC.seq <| XC.region ?_
  first | refine oR rfl rfl rfl (RO.fieldOwn fo_59_1 rfl) ?_ | refine oR rfl rfl rfl (RO.fieldPel fo_59_1 rfl) ?_
  first | refine oR rfl rfl rfl (RO.loadOwn ag_3 rfl rfl rfl) ?_ | refine oR rfl rfl rfl (RO.loadPel ag_3 rfl rfl) ?_
  first | refine oR rfl rfl rfl (RO.fieldOwn fo_39_0 rfl) ?_ | refine oR rfl rfl rfl (RO.fieldPel fo_39_0 rfl) ?_
  first | refine oR rfl rfl rfl (RO.loadOwn ag_3 rfl rfl rfl) ?_ | refine oR rfl rfl rfl (RO.loadPel ag_3 rfl rfl) ?_
  refine oR rfl rfl rfl (RO.cmp rfl rfl rfl) <| oA rfl rfl <| XL.nil <| XQ.seq <| XC.ret ?_
  refine XQ.ret1 (fun _ _ h => h) rfl (RA.tmp rfl) ?s0 rfl
  case s0 => exact (by repeat' constructor)

set_option maxRecDepth 100000 in
theorem covered_fun (L : Lvl) (hlen : L.vs.length ≤ 100000) : Fun Try.prog 51 [lvlA L] (TB (covB L.c L.vs)) := by
  refine Fun.of_body 9 7 Try.func51 rfl en_51 rfl (lb rfl) (fun S w => ?_)
  simp only [entry]
  refine XC.seq <| XC.region <| XL.op rfl (XO.box rfl (lb rfl)) <| oA rfl rfl <| XL.nil <| XQ.seq <| XC.seq <| XC.region ?_
  first | refine oR rfl rfl rfl (RO.fieldOwn fo_39_1 rfl) ?_ | refine oR rfl rfl rfl (RO.fieldPel fo_39_1 rfl) ?_
  first | refine oR rfl rfl rfl (RO.loadOwn ag_37 rfl rfl rfl) ?_ | refine oR rfl rfl rfl (RO.loadPel ag_37 rfl rfl) ?_
  refine oR rfl rfl rfl (RO.makeFunc1 rfl) ?_
  refine XL.op rfl (XO.callB2 (.inl ⟨rfl, rfl⟩) (containsLV L.vs (fun x => decide (L.c ≤ x.2)) 74 [(lvlC L, 0)] hlen (fun x _ => covered1 x L)) (by first | exact Plain.v _ rfl | exact Plain.tup [_, _] (by simp [Value.oneCell'])) rfl (by repeat' constructor) rfl (by repeat' constructor) (lb rfl)) ?_
  refine oA rfl rfl <| XL.nil <| XQ.seq <| XC.ret ?_
  refine XQ.ret1 (fun _ _ h => h) rfl (RA.tmp rfl) ?s0 rfl
  case s0 => exact (by repeat' constructor)
end Go.Proofs.Ytkimijmiphkddaa
