/- slices.IndexFunc and ContainsFunc; level.covered and Valid; the reference Valid. -/
import Derived.Test.YtcapifnaceegmaaGreatDoorTab
namespace Go.Proofs.YtcapifnaceegmaaGreatDoor
open Go.RowKit
set_option linter.unusedSimpArgs false
set_option linter.unusedVariables false

set_option maxRecDepth 100000 in
theorem indexLV (l : List LV) (p : LV → Bool) (f : FuncId) (caps : List (List C × Nat)) (hlen : l.length ≤ 100000) (hf : ∀ x ∈ l, Fun Tryz.prog f ([lvA x] ++ caps.map fun q => .one (.pel q.1 q.2)) (TB (p x))) : Fun Tryz.prog 86 [.one (.d (.sl 2 (l.map lvC))), .one (.clo f caps)] (TI (idxOf p l)) := by
  refine Fun.of_body 9 19 Tryz.func86 rfl en_86 rfl (lb rfl) (fun S w => ?_)
  simp only [entry]
  refine XC.seq <| XC.region <| oA rfl rfl <| XL.nil <| XQ.seq <| XC.seq <| XC.seq <| XC.region <| oM rfl rfl ?_
  refine XL.op rfl (XO.of_ro rfl (lb rfl) (RO.len sl_22 rfl (by repeat' constructor))) ?_
  refine oM rfl rfl <| XL.nil <| XQ.seq <| XC.block ?_
  refine XC.loop (X := Nat) (fun k => ⟨[(0, .v (.one (.d (.sl 2 (l.map lvC))))), (1, .v (.one (.clo f caps))), (7, TI (l.map lvC).length), (8, TI k)], [], [], 0, 19, []⟩) (fun k => k ≤ l.length ∧ ∀ (i : Nat) (x : LV), i < k → l[i]? = some x → p x = false) (fun k => l.length - k) 0 ⟨(by repeat' constructor), (by repeat' constructor), (by repeat (first | exact trivial | refine ⟨(by intro T h; first | (cases h; rfl) | cases h), ?_⟩)), (lb rfl), Nat.zero_le _, rfl, rfl, (by simp [tmBelow, TV.below, AV.below, CA.below]), (by simp [hpBelow, HB.below, CA.below]), (by simp [tkBelow]), (by simp)⟩ ⟨Nat.zero_le _, fun i e h => absurd h (Nat.not_lt_zero i)⟩ ?_
  rintro k ⟨hk, hn⟩
  try dsimp only
  refine XC.seq <| XC.region <| oR rfl rfl rfl (RO.cmp rfl rfl rfl) <| XL.nil <| XQ.seq <| XC.seq ?_
  refine XC.cond rfl (fun c1 => ?_) (fun c1 => ?_)
  ·
    replace c1 := prs c1
    simp only [List.length_map] at c1
    have hlt : k < l.length := by omega
    obtain ⟨x, hx⟩ : ∃ x, l[k]? = some x := ⟨_, List.getElem?_eq_getElem hlt⟩
    refine XC.skip <| XQ.seq <| XC.seq <| XC.block <| XC.seq <| XC.region <| oM rfl rfl <| oA rfl rfl <| XL.nil <| XQ.seq <| XC.seq <| XC.region <| oM rfl rfl <| oM rfl rfl ?_
    refine oM rfl rfl ?_
    refine XL.op rfl (XO.of_ro rfl (lb rfl) (RO.index sl_22 rfl (by repeat' constructor) rfl rfl (map_get hx))) ?_
    first | refine oR rfl rfl rfl (RO.loadOwnAgg ag_69 rfl rfl rfl rfl) ?_ | refine oR rfl rfl rfl (RO.loadPelAgg ag_69 rfl rfl rfl) ?_
    refine XL.op rfl (XO.callB1 (.inr ⟨_, _, rfl, rfl, rfl⟩) (hf x (List.mem_of_getElem? hx)) (by first | exact Plain.v _ rfl | exact Plain.tup [_, _] (by simp [Value.oneCell'])) rfl (by repeat' constructor) (lb rfl)) ?_
    refine XL.nil <| XQ.seq ?_
    refine XC.cond rfl (fun c2 => ?_) (fun c2 => ?_)
    ·
      replace c2 := prs c2
      refine XC.seq <| XC.region <| oM rfl rfl <| oA rfl rfl <| XL.nil <| XQ.seq <| XC.ret ?_
      refine XQ.ret1 (fun _ _ h => h) rfl (RA.tmp rfl) ?s0 rfl
      case s0 => (rw [idxOf_at p l k x hx c2 hn]); exact (by repeat' constructor)
    ·
      replace c2 := prs c2
      refine XC.skip <| XQ.inBlock <| XQ.seq <| XC.region ?_
      refine XL.op rfl (XO.of_ro rfl (lb rfl) (RO.arith rfl rfl rfl (by omega) (by omega))) ?_
      refine oM rfl rfl <| XL.nil ?_
      refine XQ.next (k + 1) ⟨(by repeat' constructor), (by repeat' constructor), (by repeat (first | exact trivial | refine ⟨(by intro T h; first | (cases h; rfl) | cases h), ?_⟩)), (lb rfl), Nat.zero_le _, rfl, rfl, (by simp [tmBelow, TV.below, AV.below, CA.below]), (by simp [hpBelow, HB.below, CA.below]), (by simp [tkBelow]), (by simp)⟩ ⟨by omega, ?_⟩ (by omega)
      intro i y hi hy
      rcases Nat.lt_or_ge i k with h | h
      · exact hn i y h hy
      · obtain rfl : i = k := by omega
        rw [hx] at hy; cases hy; exact c2
  ·
    replace c1 := prs c1
    refine XC.exit <| XQ.thenE <| XQ.thenE <| XQ.blockX <| XQ.seq <| XC.seq <| XC.region <| oA rfl rfl <| XL.nil <| XQ.seq <| XC.ret ?_
    refine XQ.ret1 (fun _ _ h => h) rfl (RA.tmp rfl) ?s0 rfl
    case s0 => (rw [idxOf_none p l (fun i y hy => hn i y (by have := (List.getElem?_eq_some_iff.1 hy).1; simp only [List.length_map] at c1; omega) hy)]); exact (by repeat' constructor)

set_option maxRecDepth 100000 in
theorem containsLV (l : List LV) (p : LV → Bool) (f : FuncId) (caps : List (List C × Nat)) (hlen : l.length ≤ 100000) (hf : ∀ x ∈ l, Fun Tryz.prog f ([lvA x] ++ caps.map fun q => .one (.pel q.1 q.2)) (TB (p x))) : Fun Tryz.prog 60 [.one (.d (.sl 2 (l.map lvC))), .one (.clo f caps)] (TB (l.any p)) := by
  refine Fun.of_body 9 9 Tryz.func60 rfl en_60 rfl (lb rfl) (fun S w => ?_)
  simp only [entry]
  refine XC.seq <| XC.region <| oA rfl rfl <| XL.nil <| XQ.seq <| XC.seq <| XC.region <| oM rfl rfl <| oM rfl rfl ?_
  refine XL.op rfl (XO.callB2 (.inl ⟨rfl, rfl⟩) (indexLV l p f caps hlen hf) (by first | exact Plain.v _ rfl | exact Plain.tup [_, _] (by simp [Value.oneCell'])) rfl (by repeat' constructor) rfl (by repeat' constructor) (lb rfl)) ?_
  refine oR rfl rfl rfl (RO.cmp rfl rfl rfl) <| oA rfl rfl <| XL.nil <| XQ.seq <| XC.ret ?_
  refine XQ.ret1 (fun _ _ h => h) rfl (RA.tmp rfl) ?s0 rfl
  case s0 => (rw [← idxOf_pos p l]); exact (by repeat' constructor)

set_option maxRecDepth 100000 in
theorem indexLvl (l : List Lvl) (p : Lvl → Bool) (f : FuncId) (caps : List (List C × Nat)) (hlen : l.length ≤ 100000) (hf : ∀ x ∈ l, Fun Tryz.prog f ([lvlA x] ++ caps.map fun q => .one (.pel q.1 q.2)) (TB (p x))) : Fun Tryz.prog 76 [.one (.d (.sl 2 (l.map lvlC))), .one (.clo f caps)] (TI (idxOf p l)) := by
  refine Fun.of_body 9 19 Tryz.func76 rfl en_76 rfl (lb rfl) (fun S w => ?_)
  simp only [entry]
  refine XC.seq <| XC.region <| oA rfl rfl <| XL.nil <| XQ.seq <| XC.seq <| XC.seq <| XC.region <| oM rfl rfl ?_
  refine XL.op rfl (XO.of_ro rfl (lb rfl) (RO.len sl_55 rfl (by repeat' constructor))) ?_
  refine oM rfl rfl <| XL.nil <| XQ.seq <| XC.block ?_
  refine XC.loop (X := Nat) (fun k => ⟨[(0, .v (.one (.d (.sl 2 (l.map lvlC))))), (1, .v (.one (.clo f caps))), (7, TI (l.map lvlC).length), (8, TI k)], [], [], 0, 19, []⟩) (fun k => k ≤ l.length ∧ ∀ (i : Nat) (x : Lvl), i < k → l[i]? = some x → p x = false) (fun k => l.length - k) 0 ⟨(by repeat' constructor), (by repeat' constructor), (by repeat (first | exact trivial | refine ⟨(by intro T h; first | (cases h; rfl) | cases h), ?_⟩)), (lb rfl), Nat.zero_le _, rfl, rfl, (by simp [tmBelow, TV.below, AV.below, CA.below]), (by simp [hpBelow, HB.below, CA.below]), (by simp [tkBelow]), (by simp)⟩ ⟨Nat.zero_le _, fun i e h => absurd h (Nat.not_lt_zero i)⟩ ?_
  rintro k ⟨hk, hn⟩
  try dsimp only
  refine XC.seq <| XC.region <| oR rfl rfl rfl (RO.cmp rfl rfl rfl) <| XL.nil <| XQ.seq <| XC.seq ?_
  refine XC.cond rfl (fun c1 => ?_) (fun c1 => ?_)
  ·
    replace c1 := prs c1
    simp only [List.length_map] at c1
    have hlt : k < l.length := by omega
    obtain ⟨x, hx⟩ : ∃ x, l[k]? = some x := ⟨_, List.getElem?_eq_getElem hlt⟩
    refine XC.skip <| XQ.seq <| XC.seq <| XC.block <| XC.seq <| XC.region <| oM rfl rfl <| oA rfl rfl <| XL.nil <| XQ.seq <| XC.seq <| XC.region <| oM rfl rfl <| oM rfl rfl ?_
    refine oM rfl rfl ?_
    refine XL.op rfl (XO.of_ro rfl (lb rfl) (RO.index sl_55 rfl (by repeat' constructor) rfl rfl (map_get hx))) ?_
    first | refine oR rfl rfl rfl (RO.loadOwnAgg ag_24 rfl rfl rfl rfl) ?_ | refine oR rfl rfl rfl (RO.loadPelAgg ag_24 rfl rfl rfl) ?_
    refine XL.op rfl (XO.callB1 (.inr ⟨_, _, rfl, rfl, rfl⟩) (hf x (List.mem_of_getElem? hx)) (by first | exact Plain.v _ rfl | exact Plain.tup [_, _] (by simp [Value.oneCell'])) rfl (by repeat' constructor) (lb rfl)) ?_
    refine XL.nil <| XQ.seq ?_
    refine XC.cond rfl (fun c2 => ?_) (fun c2 => ?_)
    ·
      replace c2 := prs c2
      refine XC.seq <| XC.region <| oM rfl rfl <| oA rfl rfl <| XL.nil <| XQ.seq <| XC.ret ?_
      refine XQ.ret1 (fun _ _ h => h) rfl (RA.tmp rfl) ?s0 rfl
      case s0 => (rw [idxOf_at p l k x hx c2 hn]); exact (by repeat' constructor)
    ·
      replace c2 := prs c2
      refine XC.skip <| XQ.inBlock <| XQ.seq <| XC.region ?_
      refine XL.op rfl (XO.of_ro rfl (lb rfl) (RO.arith rfl rfl rfl (by omega) (by omega))) ?_
      refine oM rfl rfl <| XL.nil ?_
      refine XQ.next (k + 1) ⟨(by repeat' constructor), (by repeat' constructor), (by repeat (first | exact trivial | refine ⟨(by intro T h; first | (cases h; rfl) | cases h), ?_⟩)), (lb rfl), Nat.zero_le _, rfl, rfl, (by simp [tmBelow, TV.below, AV.below, CA.below]), (by simp [hpBelow, HB.below, CA.below]), (by simp [tkBelow]), (by simp)⟩ ⟨by omega, ?_⟩ (by omega)
      intro i y hi hy
      rcases Nat.lt_or_ge i k with h | h
      · exact hn i y h hy
      · obtain rfl : i = k := by omega
        rw [hx] at hy; cases hy; exact c2
  ·
    replace c1 := prs c1
    refine XC.exit <| XQ.thenE <| XQ.thenE <| XQ.blockX <| XQ.seq <| XC.seq <| XC.region <| oA rfl rfl <| XL.nil <| XQ.seq <| XC.ret ?_
    refine XQ.ret1 (fun _ _ h => h) rfl (RA.tmp rfl) ?s0 rfl
    case s0 => (rw [idxOf_none p l (fun i y hy => hn i y (by have := (List.getElem?_eq_some_iff.1 hy).1; simp only [List.length_map] at c1; omega) hy)]); exact (by repeat' constructor)

set_option maxRecDepth 100000 in
theorem containsLvl (l : List Lvl) (p : Lvl → Bool) (f : FuncId) (caps : List (List C × Nat)) (hlen : l.length ≤ 100000) (hf : ∀ x ∈ l, Fun Tryz.prog f ([lvlA x] ++ caps.map fun q => .one (.pel q.1 q.2)) (TB (p x))) : Fun Tryz.prog 45 [.one (.d (.sl 2 (l.map lvlC))), .one (.clo f caps)] (TB (l.any p)) := by
  refine Fun.of_body 9 9 Tryz.func45 rfl en_45 rfl (lb rfl) (fun S w => ?_)
  simp only [entry]
  refine XC.seq <| XC.region <| oA rfl rfl <| XL.nil <| XQ.seq <| XC.seq <| XC.region <| oM rfl rfl <| oM rfl rfl ?_
  refine XL.op rfl (XO.callB2 (.inl ⟨rfl, rfl⟩) (indexLvl l p f caps hlen hf) (by first | exact Plain.v _ rfl | exact Plain.tup [_, _] (by simp [Value.oneCell'])) rfl (by repeat' constructor) rfl (by repeat' constructor) (lb rfl)) ?_
  refine oR rfl rfl rfl (RO.cmp rfl rfl rfl) <| oA rfl rfl <| XL.nil <| XQ.seq <| XC.ret ?_
  refine XQ.ret1 (fun _ _ h => h) rfl (RA.tmp rfl) ?s0 rfl
  case s0 => (rw [← idxOf_pos p l]); exact (by repeat' constructor)



set_option maxRecDepth 100000 in
theorem indexInt (l : List Int) (p : Int → Bool) (f : FuncId) (caps : List (List C × Nat)) (hlen : l.length ≤ 100000) (hf : ∀ x ∈ l, Fun Tryz.prog f ([.one (.d (.v (.int .i64 x)))] ++ caps.map fun q => .one (.pel q.1 q.2)) (TB (p x))) : Fun Tryz.prog 93 [.one (.d (.sl 1 (l.map intC))), .one (.clo f caps)] (TI (idxOf p l)) := by
  refine Fun.of_body 9 19 Tryz.func93 rfl en_93 rfl (lb rfl) (fun S w => ?_)
  simp only [entry]
  refine XC.seq <| XC.region <| oA rfl rfl <| XL.nil <| XQ.seq <| XC.seq <| XC.seq <| XC.region <| oM rfl rfl ?_
  refine XL.op rfl (XO.of_ro rfl (lb rfl) (RO.len sl_46 rfl (by repeat' constructor))) ?_
  refine oM rfl rfl <| XL.nil <| XQ.seq <| XC.block ?_
  refine XC.loop (X := Nat) (fun k => ⟨[(0, .v (.one (.d (.sl 1 (l.map intC))))), (1, .v (.one (.clo f caps))), (7, TI (l.map intC).length), (8, TI k)], [], [], 0, 19, []⟩) (fun k => k ≤ l.length ∧ ∀ (i : Nat) (x : Int), i < k → l[i]? = some x → p x = false) (fun k => l.length - k) 0 ⟨(by repeat' constructor), (by repeat' constructor), (by repeat (first | exact trivial | refine ⟨(by intro T h; first | (cases h; rfl) | cases h), ?_⟩)), (lb rfl), Nat.zero_le _, rfl, rfl, (by simp [tmBelow, TV.below, AV.below, CA.below]), (by simp [hpBelow, HB.below, CA.below]), (by simp [tkBelow]), (by simp)⟩ ⟨Nat.zero_le _, fun i e h => absurd h (Nat.not_lt_zero i)⟩ ?_
  rintro k ⟨hk, hn⟩
  try dsimp only
  refine XC.seq <| XC.region <| oR rfl rfl rfl (RO.cmp rfl rfl rfl) <| XL.nil <| XQ.seq <| XC.seq ?_
  refine XC.cond rfl (fun c1 => ?_) (fun c1 => ?_)
  ·
    replace c1 := prs c1
    simp only [List.length_map] at c1
    have hlt : k < l.length := by omega
    obtain ⟨x, hx⟩ : ∃ x, l[k]? = some x := ⟨_, List.getElem?_eq_getElem hlt⟩
    refine XC.skip <| XQ.seq <| XC.seq <| XC.block <| XC.seq <| XC.region <| oM rfl rfl <| oA rfl rfl <| XL.nil <| XQ.seq <| XC.seq <| XC.region <| oM rfl rfl <| oM rfl rfl ?_
    refine oM rfl rfl ?_
    refine XL.op rfl (XO.of_ro rfl (lb rfl) (RO.index sl_46 rfl (by repeat' constructor) rfl rfl (map_get hx))) ?_
    first | refine oR rfl rfl rfl (RO.loadOwn ag_3 rfl rfl rfl) ?_ | refine oR rfl rfl rfl (RO.loadPel ag_3 rfl rfl) ?_
    refine XL.op rfl (XO.callB1 (.inr ⟨_, _, rfl, rfl, rfl⟩) (hf x (List.mem_of_getElem? hx)) (by first | exact Plain.v _ rfl | exact Plain.tup [_, _] (by simp [Value.oneCell'])) rfl (by repeat' constructor) (lb rfl)) ?_
    refine XL.nil <| XQ.seq ?_
    refine XC.cond rfl (fun c2 => ?_) (fun c2 => ?_)
    ·
      replace c2 := prs c2
      refine XC.seq <| XC.region <| oM rfl rfl <| oA rfl rfl <| XL.nil <| XQ.seq <| XC.ret ?_
      refine XQ.ret1 (fun _ _ h => h) rfl (RA.tmp rfl) ?s0 rfl
      case s0 => (rw [idxOf_at p l k x hx c2 hn]); exact (by repeat' constructor)
    ·
      replace c2 := prs c2
      refine XC.skip <| XQ.inBlock <| XQ.seq <| XC.region ?_
      refine XL.op rfl (XO.of_ro rfl (lb rfl) (RO.arith rfl rfl rfl (by omega) (by omega))) ?_
      refine oM rfl rfl <| XL.nil ?_
      refine XQ.next (k + 1) ⟨(by repeat' constructor), (by repeat' constructor), (by repeat (first | exact trivial | refine ⟨(by intro T h; first | (cases h; rfl) | cases h), ?_⟩)), (lb rfl), Nat.zero_le _, rfl, rfl, (by simp [tmBelow, TV.below, AV.below, CA.below]), (by simp [hpBelow, HB.below, CA.below]), (by simp [tkBelow]), (by simp)⟩ ⟨by omega, ?_⟩ (by omega)
      intro i y hi hy
      rcases Nat.lt_or_ge i k with h | h
      · exact hn i y h hy
      · obtain rfl : i = k := by omega
        rw [hx] at hy; cases hy; exact c2
  ·
    replace c1 := prs c1
    refine XC.exit <| XQ.thenE <| XQ.thenE <| XQ.blockX <| XQ.seq <| XC.seq <| XC.region <| oA rfl rfl <| XL.nil <| XQ.seq <| XC.ret ?_
    refine XQ.ret1 (fun _ _ h => h) rfl (RA.tmp rfl) ?s0 rfl
    case s0 => (rw [idxOf_none p l (fun i y hy => hn i y (by have := (List.getElem?_eq_some_iff.1 hy).1; simp only [List.length_map] at c1; omega) hy)]); exact (by repeat' constructor)

set_option maxRecDepth 100000 in
theorem containsInt (l : List Int) (p : Int → Bool) (f : FuncId) (caps : List (List C × Nat)) (hlen : l.length ≤ 100000) (hf : ∀ x ∈ l, Fun Tryz.prog f ([.one (.d (.v (.int .i64 x)))] ++ caps.map fun q => .one (.pel q.1 q.2)) (TB (p x))) : Fun Tryz.prog 74 [.one (.d (.sl 1 (l.map intC))), .one (.clo f caps)] (TB (l.any p)) := by
  refine Fun.of_body 9 9 Tryz.func74 rfl en_74 rfl (lb rfl) (fun S w => ?_)
  simp only [entry]
  refine XC.seq <| XC.region <| oA rfl rfl <| XL.nil <| XQ.seq <| XC.seq <| XC.region <| oM rfl rfl <| oM rfl rfl ?_
  refine XL.op rfl (XO.callB2 (.inl ⟨rfl, rfl⟩) (indexInt l p f caps hlen hf) (by first | exact Plain.v _ rfl | exact Plain.tup [_, _] (by simp [Value.oneCell'])) rfl (by repeat' constructor) rfl (by repeat' constructor) (lb rfl)) ?_
  refine oR rfl rfl rfl (RO.cmp rfl rfl rfl) <| oA rfl rfl <| XL.nil <| XQ.seq <| XC.ret ?_
  refine XQ.ret1 (fun _ _ h => h) rfl (RA.tmp rfl) ?s0 rfl
  case s0 => (rw [← idxOf_pos p l]); exact (by repeat' constructor)

set_option maxRecDepth 100000 in
theorem covered1 (x : LV) (L : Lvl) : Fun Tryz.prog 77 [lvA x, .one (.pel (lvlC L) 0)] (TB (decide (L.c ≤ x.2))) := by
  refine Fun.of_body 9 9 Tryz.func77 rfl en_77 rfl (lb rfl) (fun S w => ?_)
  simp only [entry]
  refine XC.seq <| XC.region <| XL.op rfl (XO.box rfl (lb rfl)) <| oA rfl rfl <| XL.nil <| XQ.seq <| XC.seq <| XC.region ?_
  first | refine oR rfl rfl rfl (RO.fieldOwn fo_69_1 rfl) ?_ | refine oR rfl rfl rfl (RO.fieldPel fo_69_1 rfl) ?_
  first | refine oR rfl rfl rfl (RO.loadOwn ag_3 rfl rfl rfl) ?_ | refine oR rfl rfl rfl (RO.loadPel ag_3 rfl rfl) ?_
  first | refine oR rfl rfl rfl (RO.fieldOwn fo_24_0 rfl) ?_ | refine oR rfl rfl rfl (RO.fieldPel fo_24_0 rfl) ?_
  first | refine oR rfl rfl rfl (RO.loadOwn ag_3 rfl rfl rfl) ?_ | refine oR rfl rfl rfl (RO.loadPel ag_3 rfl rfl) ?_
  refine oR rfl rfl rfl (RO.cmp rfl rfl rfl) <| oA rfl rfl <| XL.nil <| XQ.seq <| XC.ret ?_
  refine XQ.ret1 (fun _ _ h => h) rfl (RA.tmp rfl) ?s0 rfl
  case s0 => exact (by repeat' constructor)

set_option maxRecDepth 100000 in
theorem covered_fun (L : Lvl) (hlen : L.vs.length ≤ 100000) : Fun Tryz.prog 48 [lvlA L] (TB (covB L.c L.vs)) := by
  refine Fun.of_body 9 7 Tryz.func48 rfl en_48 rfl (lb rfl) (fun S w => ?_)
  simp only [entry]
  refine XC.seq <| XC.region <| XL.op rfl (XO.box rfl (lb rfl)) <| oA rfl rfl <| XL.nil <| XQ.seq <| XC.seq <| XC.region ?_
  first | refine oR rfl rfl rfl (RO.fieldOwn fo_24_1 rfl) ?_ | refine oR rfl rfl rfl (RO.fieldPel fo_24_1 rfl) ?_
  first | refine oR rfl rfl rfl (RO.loadOwn ag_22 rfl rfl rfl) ?_ | refine oR rfl rfl rfl (RO.loadPel ag_22 rfl rfl) ?_
  refine oR rfl rfl rfl (RO.makeFunc1 rfl) ?_
  refine XL.op rfl (XO.callB2 (.inl ⟨rfl, rfl⟩) (containsLV L.vs (fun x => decide (L.c ≤ x.2)) 77 [(lvlC L, 0)] hlen (fun x _ => covered1 x L)) (by first | exact Plain.v _ rfl | exact Plain.tup [_, _] (by simp [Value.oneCell'])) rfl (by repeat' constructor) rfl (by repeat' constructor) (lb rfl)) ?_
  refine oA rfl rfl <| XL.nil <| XQ.seq <| XC.ret ?_
  refine XQ.ret1 (fun _ _ h => h) rfl (RA.tmp rfl) ?s0 rfl
  case s0 => exact (by repeat' constructor)
end Go.Proofs.YtcapifnaceegmaaGreatDoor
