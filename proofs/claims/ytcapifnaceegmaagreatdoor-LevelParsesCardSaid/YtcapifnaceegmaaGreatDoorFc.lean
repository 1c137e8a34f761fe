/- The reference Leq; allValid; few, short; pivot, lowered, less, point, node; number, level. -/
import Derived.Test.YtcapifnaceegmaaGreatDoorFb
namespace Go.Proofs.YtcapifnaceegmaaGreatDoor
open Go.RowKit
set_option linter.unusedSimpArgs false
set_option linter.unusedVariables false

set_option maxRecDepth 100000 in
set_option maxHeartbeats 2000000 in
theorem leqR_fun (A B : Lvl) (ha : A.vs.length ≤ 100000) (hb : B.vs.length ≤ 100000) : Fun Tryz.prog 30 [lvlA A, lvlA B] (TB (leqB A B)) := by
  refine Fun.of_body 9 86 Tryz.func30 rfl en_30 rfl (lb rfl) (fun S w => ?_)
  simp only [entry]
  refine XC.seq <| XC.region <| XL.op rfl (XO.box rfl (lb rfl)) <| XL.op rfl (XO.box rfl (lb rfl)) <| oA rfl rfl <| XL.nil <| XQ.seq <| XC.seq <| XC.seq <| XC.region ?_
  first | refine oR rfl rfl rfl (RO.loadOwnAgg ag_24 rfl rfl rfl rfl) ?_ | refine oR rfl rfl rfl (RO.loadPelAgg ag_24 rfl rfl rfl) ?_
  refine XL.op rfl (XO.call1 (validR_fun A ha) rfl (by repeat' constructor) (lb rfl)) ?_
  refine oR rfl rfl rfl (RO.not rfl) <| oM rfl rfl ?_
  refine XL.case (d := 13) rfl (fun c1 => ?_) (fun c1 => ?_)
  ·
    replace c1 := prs c1
    refine XL.offB rfl rfl rfl rfl <| XL.offB rfl rfl rfl rfl <| XL.offB rfl rfl rfl rfl <| oR rfl rfl rfl (RO.pickT rfl rfl) <| XL.nil <| XQ.seq ?_
    refine XC.cond rfl (fun _ => ?_) (fun h => nomatch h)
    refine XC.seq <| XC.region <| oA rfl rfl <| XL.nil <| XQ.seq <| XC.ret ?_
    refine XQ.ret1 (fun _ _ h => h) rfl (RA.tmp rfl) ?s0 rfl
    case s0 => (rw [leq_inv (by rw [c1]; rfl)]); exact (by repeat' constructor)
  ·
    replace c1 := prs c1
    first | refine nR rfl rfl rfl rfl rfl (RO.loadOwnAgg ag_24 rfl rfl rfl rfl) ?_ | refine nR rfl rfl rfl rfl rfl (RO.loadPelAgg ag_24 rfl rfl rfl) ?_
    refine XL.on rfl rfl rfl (XO.call1 (validR_fun B hb) rfl (by repeat' constructor) (lb rfl)) ?_
    refine nR rfl rfl rfl rfl rfl (RO.not rfl) <| oR rfl rfl rfl (RO.pickF rfl rfl) <| XL.nil <| XQ.seq ?_
    refine XC.cond rfl (fun c2 => ?_) (fun c2 => ?_)
    ·
      replace c2 := prs c2
      refine XC.seq <| XC.region <| oA rfl rfl <| XL.nil <| XQ.seq <| XC.ret ?_
      refine XQ.ret1 (fun _ _ h => h) rfl (RA.tmp rfl) ?s0 rfl
      case s0 => (rw [leq_inv (by rw [c1, c2]; rfl)]); exact (by repeat' constructor)
    ·
      replace c2 := prs c2
      refine XC.skip <| XQ.seq <| XC.seq <| XC.region ?_
      first | refine oR rfl rfl rfl (RO.fieldOwn fo_24_0 rfl) ?_ | refine oR rfl rfl rfl (RO.fieldPel fo_24_0 rfl) ?_
      first | refine oR rfl rfl rfl (RO.loadOwn ag_3 rfl rfl rfl) ?_ | refine oR rfl rfl rfl (RO.loadPel ag_3 rfl rfl) ?_
      refine oA rfl rfl <| XL.nil <| XQ.seq <| XC.seq <| XC.seq <| XC.region <| oA rfl rfl <| XL.nil <| XQ.seq <| XC.block ?_
      refine XC.loop (X := Nat) (fun k => ⟨[(2, .v (.one (.ptr 0 0))), (3, .v (.one (.ptr 1 0))), (5, TI (topOf B.c (B.vs.take k))), (6, TI k)], [(0, .cells 24 [.d (.v (.int .i64 A.c)), .d (vsC A.vs)]), (1, .cells 24 [.d (.v (.int .i64 B.c)), .d (vsC B.vs)])], [], 2, 86, []⟩) (fun k => k ≤ B.vs.length) (fun k => B.vs.length - k) 0 ⟨(by repeat' constructor), (by repeat' constructor), (by repeat (first | exact trivial | refine ⟨(by intro T h; first | (cases h; rfl) | cases h), ?_⟩)), (lb rfl), Nat.zero_le _, rfl, rfl, (by simp [tmBelow, TV.below, AV.below, CA.below]), (by simp [hpBelow, HB.below, CA.below]), (by simp [tkBelow]), (by simp)⟩ (Nat.zero_le _) ?_
      rintro k hk
      try dsimp only
      refine XC.seq <| XC.seq <| XC.region <| oM rfl rfl ?_
      first | refine oR rfl rfl rfl (RO.fieldOwn fo_24_1 rfl) ?_ | refine oR rfl rfl rfl (RO.fieldPel fo_24_1 rfl) ?_
      first | refine oR rfl rfl rfl (RO.loadOwn ag_22 rfl rfl rfl) ?_ | refine oR rfl rfl rfl (RO.loadPel ag_22 rfl rfl) ?_
      refine XL.op rfl (XO.of_ro rfl (lb rfl) (RO.len sl_22 rfl (by repeat' constructor))) ?_
      refine oR rfl rfl rfl (RO.cmp rfl rfl rfl) <| XL.nil <| XQ.seq ?_
      refine XC.cond rfl (fun c3 => ?_) (fun c3 => ?_)
      ·
        replace c3 := prs c3
        simp only [List.length_map] at c3
        have hlx : k < B.vs.length := by omega
        obtain ⟨⟨x1, x2⟩, hx⟩ : ∃ x, B.vs[k]? = some x := ⟨_, List.getElem?_eq_getElem hlx⟩
        refine XC.skip <| XQ.seq <| XC.seq <| XC.block <| XC.region <| oM rfl rfl ?_
        first | refine oR rfl rfl rfl (RO.fieldOwn fo_24_1 rfl) ?_ | refine oR rfl rfl rfl (RO.fieldPel fo_24_1 rfl) ?_
        first | refine oR rfl rfl rfl (RO.loadOwn ag_22 rfl rfl rfl) ?_ | refine oR rfl rfl rfl (RO.loadPel ag_22 rfl rfl) ?_
        refine oM rfl rfl ?_
        refine XL.op rfl (XO.of_ro rfl (lb rfl) (RO.index sl_22 rfl (by repeat' constructor) rfl rfl (map_get hx))) ?_
        first | refine oR rfl rfl rfl (RO.fieldOwn fo_69_1 rfl) ?_ | refine oR rfl rfl rfl (RO.fieldPel fo_69_1 rfl) ?_
        first | refine oR rfl rfl rfl (RO.loadOwn ag_3 rfl rfl rfl) ?_ | refine oR rfl rfl rfl (RO.loadPel ag_3 rfl rfl) ?_
        refine oR rfl rfl rfl (RO.max2 rfl rfl) <| oA rfl rfl <| XL.nil <| XQ.inBlock <| XQ.seq <| XC.region <| oM rfl rfl ?_
        refine XL.op rfl (XO.of_ro rfl (lb rfl) (RO.arith rfl rfl rfl (by omega) (by omega))) ?_
        refine oA rfl rfl <| XL.nil ?_
        refine XQ.next (k + 1) ?le (by omega) (by omega)
        case le =>
          try dsimp only
          rw [take_snoc' hx, topOf_snoc]
          exact ⟨(by repeat' constructor), (by repeat' constructor), (by repeat (first | exact trivial | refine ⟨(by intro T h; first | (cases h; rfl) | cases h), ?_⟩)), (lb rfl), Nat.zero_le _, rfl, rfl, (by simp [tmBelow, TV.below, AV.below, CA.below]), (by simp [hpBelow, HB.below, CA.below]), (by simp [tkBelow]), (by simp)⟩
      ·
        replace c3 := prs c3
        have hkB : k = B.vs.length := by simp only [List.length_map] at c3; omega
        subst hkB
        rw [List.take_length]
        refine XC.exit <| XQ.thenE <| XQ.thenE <| XQ.blockX <| XQ.seq <| XC.seq <| XC.seq <| XC.region ?_
        first | refine oR rfl rfl rfl (RO.fieldOwn fo_24_0 rfl) ?_ | refine oR rfl rfl rfl (RO.fieldPel fo_24_0 rfl) ?_
        first | refine oR rfl rfl rfl (RO.loadOwn ag_3 rfl rfl rfl) ?_ | refine oR rfl rfl rfl (RO.loadPel ag_3 rfl rfl) ?_
        refine oM rfl rfl <| oR rfl rfl rfl (RO.cmp rfl rfl rfl) <| XL.nil <| XQ.seq ?_
        refine XC.cond rfl (fun c4 => ?_) (fun c4 => ?_)
        ·
          replace c4 := prs c4
          refine XC.seq <| XC.region <| oA rfl rfl <| XL.nil <| XQ.seq <| XC.ret ?_
          refine XQ.ret1 (fun _ _ h => h) rfl (RA.tmp rfl) ?s0 rfl
          case s0 => (rw [leq_c (by omega)]); exact (by repeat' constructor)
        ·
          replace c4 := prs c4
          refine XC.skip <| XQ.seq <| XC.seq <| XC.seq <| XC.region <| oA rfl rfl <| XL.nil <| XQ.seq <| XC.block ?_
          refine XC.loop (X := Nat) (fun k => ⟨[(2, .v (.one (.ptr 0 0))), (3, .v (.one (.ptr 1 0))), (7, TI k)], [(0, .cells 24 [.d (.v (.int .i64 A.c)), .d (vsC A.vs)]), (1, .cells 24 [.d (.v (.int .i64 B.c)), .d (vsC B.vs)])], [], 2, 86, []⟩) (fun k => k ≤ A.vs.length ∧ ∀ (j : Nat) (x : LV), j < k → A.vs[j]? = some x → (B.vs.any fun y => (y.1 == x.1) && decide (x.2 ≤ y.2)) = true) (fun k => A.vs.length - k) 0 ⟨(by repeat' constructor), (by repeat' constructor), (by repeat (first | exact trivial | refine ⟨(by intro T h; first | (cases h; rfl) | cases h), ?_⟩)), (lb rfl), Nat.zero_le _, rfl, rfl, (by simp [tmBelow, TV.below, AV.below, CA.below]), (by simp [hpBelow, HB.below, CA.below]), (by simp [tkBelow]), (by simp)⟩ ⟨Nat.zero_le _, fun j x h => absurd h (Nat.not_lt_zero j)⟩ ?_
          rintro k ⟨hk, hn⟩
          try dsimp only
          refine XC.seq <| XC.seq <| XC.region <| oM rfl rfl ?_
          first | refine oR rfl rfl rfl (RO.fieldOwn fo_24_1 rfl) ?_ | refine oR rfl rfl rfl (RO.fieldPel fo_24_1 rfl) ?_
          first | refine oR rfl rfl rfl (RO.loadOwn ag_22 rfl rfl rfl) ?_ | refine oR rfl rfl rfl (RO.loadPel ag_22 rfl rfl) ?_
          refine XL.op rfl (XO.of_ro rfl (lb rfl) (RO.len sl_22 rfl (by repeat' constructor))) ?_
          refine oR rfl rfl rfl (RO.cmp rfl rfl rfl) <| XL.nil <| XQ.seq ?_
          refine XC.cond rfl (fun c5 => ?_) (fun c5 => ?_)
          ·
            replace c5 := prs c5
            simp only [List.length_map] at c5
            have hlx : k < A.vs.length := by omega
            obtain ⟨⟨x1, x2⟩, hx⟩ : ∃ x, A.vs[k]? = some x := ⟨_, List.getElem?_eq_getElem hlx⟩
            refine XC.skip <| XQ.seq <| XC.seq <| XC.block <| XC.seq <| XC.region <| oA rfl rfl <| XL.nil <| XQ.seq <| XC.seq <| XC.seq <| XC.region <| oA rfl rfl <| XL.nil ?_
            refine XQ.seq <| XC.block ?_
            refine XC.loop (X := Nat) (fun j => ⟨[(2, .v (.one (.ptr 0 0))), (3, .v (.one (.ptr 1 0))), (7, TI k), (8, TB ((B.vs.take j).any fun y => (y.1 == x1) && decide (x2 ≤ y.2))), (9, TI j)], [(0, .cells 24 [.d (.v (.int .i64 A.c)), .d (vsC A.vs)]), (1, .cells 24 [.d (.v (.int .i64 B.c)), .d (vsC B.vs)])], [], 2, 86, []⟩) (fun j => j ≤ B.vs.length) (fun j => B.vs.length - j) 0 ⟨(by repeat' constructor), (by repeat' constructor), (by repeat (first | exact trivial | refine ⟨(by intro T h; first | (cases h; rfl) | cases h), ?_⟩)), (lb rfl), Nat.zero_le _, rfl, rfl, (by simp [tmBelow, TV.below, AV.below, CA.below]), (by simp [hpBelow, HB.below, CA.below]), (by simp [tkBelow]), (by simp)⟩ (Nat.zero_le _) ?_
            rintro j hj
            try dsimp only
            refine XC.seq <| XC.seq <| XC.region <| oM rfl rfl ?_
            first | refine oR rfl rfl rfl (RO.fieldOwn fo_24_1 rfl) ?_ | refine oR rfl rfl rfl (RO.fieldPel fo_24_1 rfl) ?_
            first | refine oR rfl rfl rfl (RO.loadOwn ag_22 rfl rfl rfl) ?_ | refine oR rfl rfl rfl (RO.loadPel ag_22 rfl rfl) ?_
            refine XL.op rfl (XO.of_ro rfl (lb rfl) (RO.len sl_22 rfl (by repeat' constructor))) ?_
            refine oR rfl rfl rfl (RO.cmp rfl rfl rfl) <| XL.nil <| XQ.seq ?_
            refine XC.cond rfl (fun c6 => ?_) (fun c6 => ?_)
            ·
              replace c6 := prs c6
              simp only [List.length_map] at c6
              have hly : j < B.vs.length := by omega
              obtain ⟨⟨y1, y2⟩, hy⟩ : ∃ x, B.vs[j]? = some x := ⟨_, List.getElem?_eq_getElem hly⟩
              refine XC.skip <| XQ.seq <| XC.seq <| XC.block ?_
              refine XC.draw mixed (by kernel_rfl) ?_
              refine XS.op rfl rfl (lb rfl) (RO.move rfl) <| XS.op rfl rfl (lb rfl) (RO.move rfl) ?_
              refine XS.case (d := 54) rfl (fun c7 => ?_) (fun c7 => ?_)
              ·
                replace c7 := prs c7
                have hval : ((B.vs.take (j + 1)).any fun y => (y.1 == x1) && decide (x2 ≤ y.2)) = true := by rw [any_snoc hy, c7, Bool.true_or]
                refine XS.offB rfl rfl rfl rfl <| XS.offB rfl rfl rfl rfl <| XS.offB rfl rfl rfl rfl <| XS.offB rfl rfl rfl rfl <| XS.offB rfl rfl rfl rfl <| XS.offB rfl rfl rfl rfl <| XS.offB rfl rfl rfl rfl <| XS.offB rfl rfl rfl rfl <| XS.offB rfl rfl rfl rfl <| XS.offB rfl rfl rfl rfl <| XS.offB rfl rfl rfl rfl <| XS.offB rfl rfl rfl rfl <| XS.offB rfl rfl rfl rfl <| XS.offB rfl rfl rfl rfl ?_
                refine XS.offU rfl rfl rfl rfl <| XS.offU rfl rfl rfl rfl <| XS.offU rfl rfl rfl rfl <| XS.offU rfl rfl rfl rfl <| XS.offU rfl rfl rfl rfl <| XS.offU rfl rfl rfl rfl <| XS.offU rfl rfl rfl rfl <| XS.offU rfl rfl rfl rfl <| XS.offU rfl rfl rfl rfl <| XS.offU rfl rfl rfl rfl <| XS.offU rfl rfl rfl rfl <| XS.offU rfl rfl rfl rfl <| XS.offU rfl rfl rfl rfl <| XS.offB rfl rfl rfl rfl ?_
                refine XS.op rfl rfl (lb rfl) (RO.pickT rfl rfl) <| XS.op rfl rfl (lb rfl) (RO.assign rfl) <| XS.nil <| XQ.inBlock <| XQ.seq <| XC.region <| oM rfl rfl ?_
                refine XL.op rfl (XO.of_ro rfl (lb rfl) (RO.arith rfl rfl rfl (by omega) (by omega))) ?_
                refine oA rfl rfl <| XL.nil ?_
                refine XQ.next (j + 1) ?le (by omega) (by omega)
                case le =>
                  try dsimp only
                  rw [hval]
                  exact ⟨(by repeat' constructor), (by repeat' constructor), (by repeat (first | exact trivial | refine ⟨(by intro T h; first | (cases h; rfl) | cases h), ?_⟩)), (lb rfl), Nat.zero_le _, rfl, rfl, (by simp [tmBelow, TV.below, AV.below, CA.below]), (by simp [hpBelow, HB.below, CA.below]), (by simp [tkBelow]), (by simp)⟩
              ·
                replace c7 := prs c7
                have hf0 := c7
                first | refine XS.on rfl rfl rfl rfl (lb rfl) (RO.fieldOwn fo_24_1 rfl) ?_ | refine XS.on rfl rfl rfl rfl (lb rfl) (RO.fieldPel fo_24_1 rfl) ?_
                first | refine XS.on rfl rfl rfl rfl (lb rfl) (RO.loadOwn ag_22 rfl rfl rfl) ?_ | refine XS.on rfl rfl rfl rfl (lb rfl) (RO.loadPel ag_22 rfl rfl) ?_
                refine XS.on rfl rfl rfl rfl (lb rfl) (RO.move rfl) ?_
                refine XS.on rfl rfl rfl rfl (lb rfl) (RO.index sl_22 rfl (by repeat' constructor) rfl rfl (map_get hy)) ?_
                first | refine XS.on rfl rfl rfl rfl (lb rfl) (RO.fieldOwn fo_69_0 rfl) ?_ | refine XS.on rfl rfl rfl rfl (lb rfl) (RO.fieldPel fo_69_0 rfl) ?_
                first | refine XS.on rfl rfl rfl rfl (lb rfl) (RO.loadOwn ag_3 rfl rfl rfl) ?_ | refine XS.on rfl rfl rfl rfl (lb rfl) (RO.loadPel ag_3 rfl rfl) ?_
                first | refine XS.on rfl rfl rfl rfl (lb rfl) (RO.fieldOwn fo_24_1 rfl) ?_ | refine XS.on rfl rfl rfl rfl (lb rfl) (RO.fieldPel fo_24_1 rfl) ?_
                first | refine XS.on rfl rfl rfl rfl (lb rfl) (RO.loadOwn ag_22 rfl rfl rfl) ?_ | refine XS.on rfl rfl rfl rfl (lb rfl) (RO.loadPel ag_22 rfl rfl) ?_
                refine XS.on rfl rfl rfl rfl (lb rfl) (RO.move rfl) ?_
                refine XS.on rfl rfl rfl rfl (lb rfl) (RO.index sl_22 rfl (by repeat' constructor) rfl rfl (map_get hx)) ?_
                first | refine XS.on rfl rfl rfl rfl (lb rfl) (RO.fieldOwn fo_69_0 rfl) ?_ | refine XS.on rfl rfl rfl rfl (lb rfl) (RO.fieldPel fo_69_0 rfl) ?_
                first | refine XS.on rfl rfl rfl rfl (lb rfl) (RO.loadOwn ag_3 rfl rfl rfl) ?_ | refine XS.on rfl rfl rfl rfl (lb rfl) (RO.loadPel ag_3 rfl rfl) ?_
                refine XS.on rfl rfl rfl rfl (lb rfl) (RO.cmp rfl rfl rfl) <| XS.on rfl rfl rfl rfl (lb rfl) (RO.move rfl) ?_
                refine XS.case (d := 68) rfl (fun c8 => ?_) (fun c8 => ?_)
                ·
                  replace c8 := prs c8
                  have hval : ((B.vs.take (j + 1)).any fun y => (y.1 == x1) && decide (x2 ≤ y.2)) = decide (x2 ≤ y2) := by rw [any_snoc hy, hf0, Bool.false_or]; simp [show y1 = x1 by simpa using c8]
                  first | refine XS.on rfl rfl rfl rfl (lb rfl) (RO.fieldOwn fo_24_1 rfl) ?_ | refine XS.on rfl rfl rfl rfl (lb rfl) (RO.fieldPel fo_24_1 rfl) ?_
                  first | refine XS.on rfl rfl rfl rfl (lb rfl) (RO.loadOwn ag_22 rfl rfl rfl) ?_ | refine XS.on rfl rfl rfl rfl (lb rfl) (RO.loadPel ag_22 rfl rfl) ?_
                  refine XS.on rfl rfl rfl rfl (lb rfl) (RO.move rfl) ?_
                  refine XS.on rfl rfl rfl rfl (lb rfl) (RO.index sl_22 rfl (by repeat' constructor) rfl rfl (map_get hy)) ?_
                  first | refine XS.on rfl rfl rfl rfl (lb rfl) (RO.fieldOwn fo_69_1 rfl) ?_ | refine XS.on rfl rfl rfl rfl (lb rfl) (RO.fieldPel fo_69_1 rfl) ?_
                  first | refine XS.on rfl rfl rfl rfl (lb rfl) (RO.loadOwn ag_3 rfl rfl rfl) ?_ | refine XS.on rfl rfl rfl rfl (lb rfl) (RO.loadPel ag_3 rfl rfl) ?_
                  first | refine XS.on rfl rfl rfl rfl (lb rfl) (RO.fieldOwn fo_24_1 rfl) ?_ | refine XS.on rfl rfl rfl rfl (lb rfl) (RO.fieldPel fo_24_1 rfl) ?_
                  first | refine XS.on rfl rfl rfl rfl (lb rfl) (RO.loadOwn ag_22 rfl rfl rfl) ?_ | refine XS.on rfl rfl rfl rfl (lb rfl) (RO.loadPel ag_22 rfl rfl) ?_
                  refine XS.on rfl rfl rfl rfl (lb rfl) (RO.move rfl) ?_
                  refine XS.on rfl rfl rfl rfl (lb rfl) (RO.index sl_22 rfl (by repeat' constructor) rfl rfl (map_get hx)) ?_
                  first | refine XS.on rfl rfl rfl rfl (lb rfl) (RO.fieldOwn fo_69_1 rfl) ?_ | refine XS.on rfl rfl rfl rfl (lb rfl) (RO.fieldPel fo_69_1 rfl) ?_
                  first | refine XS.on rfl rfl rfl rfl (lb rfl) (RO.loadOwn ag_3 rfl rfl rfl) ?_ | refine XS.on rfl rfl rfl rfl (lb rfl) (RO.loadPel ag_3 rfl rfl) ?_
                  refine XS.on rfl rfl rfl rfl (lb rfl) (RO.cmp rfl rfl rfl) <| XS.on rfl rfl rfl rfl (lb rfl) (RO.pickT rfl rfl) <| XS.op rfl rfl (lb rfl) (RO.pickF rfl rfl) <| XS.op rfl rfl (lb rfl) (RO.assign rfl) <| XS.nil <| XQ.inBlock <| XQ.seq <| XC.region <| oM rfl rfl ?_
                  refine XL.op rfl (XO.of_ro rfl (lb rfl) (RO.arith rfl rfl rfl (by omega) (by omega))) ?_
                  refine oA rfl rfl <| XL.nil ?_
                  refine XQ.next (j + 1) ?le (by omega) (by omega)
                  case le =>
                    try dsimp only
                    rw [hval]
                    exact ⟨(by repeat' constructor), (by repeat' constructor), (by repeat (first | exact trivial | refine ⟨(by intro T h; first | (cases h; rfl) | cases h), ?_⟩)), (lb rfl), Nat.zero_le _, rfl, rfl, (by simp [tmBelow, TV.below, AV.below, CA.below]), (by simp [hpBelow, HB.below, CA.below]), (by simp [tkBelow]), (by simp)⟩
                ·
                  replace c8 := prs c8
                  have hval : ((B.vs.take (j + 1)).any fun y => (y.1 == x1) && decide (x2 ≤ y.2)) = false := by rw [any_snoc hy, hf0, Bool.false_or]; simp [c8]
                  refine XS.offB rfl rfl rfl rfl <| XS.offB rfl rfl rfl rfl <| XS.offB rfl rfl rfl rfl <| XS.offB rfl rfl rfl rfl <| XS.offB rfl rfl rfl rfl <| XS.offB rfl rfl rfl rfl <| XS.offB rfl rfl rfl rfl <| XS.offB rfl rfl rfl rfl <| XS.offB rfl rfl rfl rfl <| XS.offB rfl rfl rfl rfl <| XS.offB rfl rfl rfl rfl <| XS.offB rfl rfl rfl rfl <| XS.offB rfl rfl rfl rfl <| XS.on rfl rfl rfl rfl (lb rfl) (RO.pickF rfl rfl) ?_
                  refine XS.op rfl rfl (lb rfl) (RO.pickF rfl rfl) <| XS.op rfl rfl (lb rfl) (RO.assign rfl) <| XS.nil <| XQ.inBlock <| XQ.seq <| XC.region <| oM rfl rfl ?_
                  refine XL.op rfl (XO.of_ro rfl (lb rfl) (RO.arith rfl rfl rfl (by omega) (by omega))) ?_
                  refine oA rfl rfl <| XL.nil ?_
                  refine XQ.next (j + 1) ?le (by omega) (by omega)
                  case le =>
                    try dsimp only
                    rw [hval]
                    exact ⟨(by repeat' constructor), (by repeat' constructor), (by repeat (first | exact trivial | refine ⟨(by intro T h; first | (cases h; rfl) | cases h), ?_⟩)), (lb rfl), Nat.zero_le _, rfl, rfl, (by simp [tmBelow, TV.below, AV.below, CA.below]), (by simp [hpBelow, HB.below, CA.below]), (by simp [tkBelow]), (by simp)⟩
            ·
              replace c6 := prs c6
              have hjB : j = B.vs.length := by simp only [List.length_map] at c6; omega
              subst hjB
              rw [List.take_length]
              refine XC.exit <| XQ.thenE <| XQ.thenE <| XQ.blockX <| XQ.seq <| XC.seq <| XC.region <| oM rfl rfl <| oR rfl rfl rfl (RO.not rfl) <| XL.nil <| XQ.seq ?_
              refine XC.cond rfl (fun c9 => ?_) (fun c9 => ?_)
              ·
                replace c9 := prs c9
                refine XC.seq <| XC.region <| oA rfl rfl <| XL.nil <| XQ.seq <| XC.ret ?_
                refine XQ.ret1 (fun _ _ h => h) rfl (RA.tmp rfl) ?s0 rfl
                case s0 => (rw [leq_false_at hx (by assumption)]); exact (by repeat' constructor)
              ·
                replace c9 := prs c9
                refine XC.skip <| XQ.inBlock <| XQ.seq <| XC.region <| oM rfl rfl ?_
                refine XL.op rfl (XO.of_ro rfl (lb rfl) (RO.arith rfl rfl rfl (by omega) (by omega))) ?_
                refine oA rfl rfl <| XL.nil ?_
                refine XQ.next (k + 1) ⟨(by repeat' constructor), (by repeat' constructor), (by repeat (first | exact trivial | refine ⟨(by intro T h; first | (cases h; rfl) | cases h), ?_⟩)), (lb rfl), Nat.zero_le _, rfl, rfl, (by simp [tmBelow, TV.below, AV.below, CA.below]), (by simp [hpBelow, HB.below, CA.below]), (by simp [tkBelow]), (by simp)⟩ ⟨by omega, ?_⟩ (by omega)
                intro j x hj h
                rcases Nat.lt_or_ge j k with h2 | h2
                · exact hn j x h2 h
                · obtain rfl : j = k := by omega
                  rw [hx] at h; cases h; assumption
          ·
            replace c5 := prs c5
            refine XC.exit <| XQ.thenE <| XQ.thenE <| XQ.blockX <| XQ.seq <| XC.seq <| XC.region <| oA rfl rfl <| XL.nil <| XQ.seq <| XC.ret ?_
            refine XQ.ret1 (fun _ _ h => h) rfl (RA.tmp rfl) ?s0 rfl
            case s0 => (rw [leq_true_of (by assumption) (by assumption) (by omega) (fun j x hj hx => hn j x (by simp only [List.length_map] at *; omega) hx)]); exact (by repeat' constructor)

set_option maxRecDepth 100000 in
theorem allValid1 (L : Lvl) (hlen : L.vs.length ≤ 100000) : Fun Tryz.prog 92 [lvlA L] (TB (!validB L)) := by
  refine Fun.of_body 9 6 Tryz.func92 rfl en_92 rfl (lb rfl) (fun S w => ?_)
  simp only [entry]
  refine XC.seq <| XC.region <| XL.op rfl (XO.box rfl (lb rfl)) <| oA rfl rfl <| XL.nil <| XQ.seq <| XC.seq <| XC.region ?_
  first | refine oR rfl rfl rfl (RO.loadOwnAgg ag_24 rfl rfl rfl rfl) ?_ | refine oR rfl rfl rfl (RO.loadPelAgg ag_24 rfl rfl rfl) ?_
  refine XL.op rfl (XO.call1 (valid_fun L hlen) rfl (by repeat' constructor) (lb rfl)) ?_
  refine oR rfl rfl rfl (RO.not rfl) <| oA rfl rfl <| XL.nil <| XQ.seq <| XC.ret ?_
  refine XQ.ret1 (fun _ _ h => h) rfl (RA.tmp rfl) ?s0 rfl
  case s0 => exact (by repeat' constructor)

set_option maxRecDepth 100000 in
theorem allValid_fun (l : List Lvl) (hlen : l.length ≤ 100000) (hvs : ∀ L ∈ l, L.vs.length ≤ 100000) : Fun Tryz.prog 69 [.one (.d (lvlsC l))] (TB (l.all validB)) := by
  refine Fun.of_body 9 6 Tryz.func69 rfl en_69 rfl (lb rfl) (fun S w => ?_)
  simp only [entry]
  refine XC.seq <| XC.region <| oA rfl rfl <| XL.nil <| XQ.seq <| XC.seq <| XC.region <| oM rfl rfl ?_
  refine XL.op rfl (XO.callB2 (.inl ⟨rfl, rfl⟩) (containsLvl l (fun L => !validB L) 92 [] hlen (fun L hL => allValid1 L (hvs L hL))) (by first | exact Plain.v _ rfl | exact Plain.tup [_, _] (by simp [Value.oneCell'])) rfl (by repeat' constructor) rfl (by repeat' constructor) (lb rfl)) ?_
  refine oR rfl rfl rfl (RO.not rfl) <| oA rfl rfl <| XL.nil <| XQ.seq <| XC.ret ?_
  refine XQ.ret1 (fun _ _ h => h) rfl (RA.tmp rfl) ?s0 rfl
  case s0 => (rw [← all_any]); exact (by repeat' constructor)

set_option maxRecDepth 100000 in
theorem allValidR_fun (l : List Lvl) (hlen : l.length ≤ 100000) (hvs : ∀ L ∈ l, L.vs.length ≤ 100000) : Fun Tryz.prog 72 [.one (.d (lvlsC l))] (TB (l.all validB)) := by
  refine Fun.of_body 9 16 Tryz.func72 rfl en_72 rfl (lb rfl) (fun S w => ?_)
  simp only [entry]
  refine XC.seq <| XC.region <| oA rfl rfl <| XL.nil <| XQ.seq <| XC.seq <| XC.seq <| XC.region <| oA rfl rfl <| XL.nil <| XQ.seq <| XC.block ?_
  refine XC.loop (X := Nat) (fun k => ⟨[(0, .v (.one (.d (lvlsC l)))), (3, TI k)], [], [], 0, 16, []⟩) (fun k => k ≤ l.length ∧ ∀ (j : Nat) (x : Lvl), j < k → l[j]? = some x → validB x = true) (fun k => l.length - k) 0 ⟨(by repeat' constructor), (by repeat' constructor), (by repeat (first | exact trivial | refine ⟨(by intro T h; first | (cases h; rfl) | cases h), ?_⟩)), (lb rfl), Nat.zero_le _, rfl, rfl, (by simp [tmBelow, TV.below, AV.below, CA.below]), (by simp [hpBelow, HB.below, CA.below]), (by simp [tkBelow]), (by simp)⟩ ⟨Nat.zero_le _, fun j x h => absurd h (Nat.not_lt_zero j)⟩ ?_
  rintro k ⟨hk, hn⟩
  try dsimp only
  refine XC.seq <| XC.seq <| XC.region <| oM rfl rfl <| oM rfl rfl ?_
  refine XL.op rfl (XO.of_ro rfl (lb rfl) (RO.len sl_55 rfl (by repeat' constructor))) ?_
  refine oR rfl rfl rfl (RO.cmp rfl rfl rfl) <| XL.nil <| XQ.seq ?_
  refine XC.cond rfl (fun c1 => ?_) (fun c1 => ?_)
  ·
    replace c1 := prs c1
    simp only [List.length_map] at c1
    have hlx : k < l.length := by omega
    obtain ⟨x, hx⟩ : ∃ x, l[k]? = some x := ⟨_, List.getElem?_eq_getElem hlx⟩
    refine XC.skip <| XQ.seq <| XC.seq <| XC.block <| XC.seq <| XC.region <| oM rfl rfl <| oM rfl rfl ?_
    refine XL.op rfl (XO.of_ro rfl (lb rfl) (RO.index sl_55 rfl (by repeat' constructor) rfl rfl (map_get hx))) ?_
    first | refine oR rfl rfl rfl (RO.loadOwnAgg ag_24 rfl rfl rfl rfl) ?_ | refine oR rfl rfl rfl (RO.loadPelAgg ag_24 rfl rfl rfl) ?_
    refine XL.op rfl (XO.call1 (validR_fun x (hvs x (List.mem_of_getElem? hx))) rfl (by repeat' constructor) (lb rfl)) ?_
    refine oR rfl rfl rfl (RO.not rfl) <| XL.nil <| XQ.seq ?_
    refine XC.cond rfl (fun c2 => ?_) (fun c2 => ?_)
    ·
      replace c2 := prs c2
      refine XC.seq <| XC.region <| oA rfl rfl <| XL.nil <| XQ.seq <| XC.ret ?_
      refine XQ.ret1 (fun _ _ h => h) rfl (RA.tmp rfl) ?s0 rfl
      case s0 => (rw [all_false_at hx (by assumption)]); exact (by repeat' constructor)
    ·
      replace c2 := prs c2
      refine XC.skip <| XQ.inBlock <| XQ.seq <| XC.region <| oM rfl rfl ?_
      refine XL.op rfl (XO.of_ro rfl (lb rfl) (RO.arith rfl rfl rfl (by omega) (by omega))) ?_
      refine oA rfl rfl <| XL.nil ?_
      refine XQ.next (k + 1) ⟨(by repeat' constructor), (by repeat' constructor), (by repeat (first | exact trivial | refine ⟨(by intro T h; first | (cases h; rfl) | cases h), ?_⟩)), (lb rfl), Nat.zero_le _, rfl, rfl, (by simp [tmBelow, TV.below, AV.below, CA.below]), (by simp [hpBelow, HB.below, CA.below]), (by simp [tkBelow]), (by simp)⟩ ⟨by omega, ?_⟩ (by omega)
      intro j y hj h
      rcases Nat.lt_or_ge j k with h2 | h2
      · exact hn j y h2 h
      · obtain rfl : j = k := by omega
        rw [hx] at h; cases h; assumption
  ·
    replace c1 := prs c1
    refine XC.exit <| XQ.thenE <| XQ.thenE <| XQ.blockX <| XQ.seq <| XC.seq <| XC.region <| oA rfl rfl <| XL.nil <| XQ.seq <| XC.ret ?_
    refine XQ.ret1 (fun _ _ h => h) rfl (RA.tmp rfl) ?s0 rfl
    case s0 => (rw [all_true_of (fun j x h => hn j x (by have := (List.getElem?_eq_some_iff.1 h).1; simp only [List.length_map] at *; omega) h)]); exact (by repeat' constructor)








set_option maxRecDepth 100000 in
theorem number_fun (n : Int) : Fun Tryz.prog 47 [.one (.d (.v (.int .i64 n)))] (.v (lvlA ⟨n, []⟩)) := by
  refine Fun.of_body 9 5 Tryz.func47 rfl en_47 rfl (lb rfl) (fun S w => ?_)
  simp only [entry]
  refine XC.seq <| XC.region <| XL.op rfl (XO.alloc z_24 rfl (lb rfl)) <| XL.nil <| XQ.seq <| XC.seq <| XC.region <| oM rfl rfl <| oR rfl rfl rfl (RO.build1 bd_24 rfl rfl rfl) <| XL.op rfl (XO.store ag_24 rfl rfl rfl rfl (lb rfl) rfl) <| XL.nil <| XQ.seq <| XC.ret ?_
  refine XQ.ret1 (fun _ _ h => h) rfl (RA.cellAgg ag_24 rfl rfl rfl rfl) ?s0 rfl
  case s0 => exact (by repeat' constructor)

end Go.Proofs.YtcapifnaceegmaaGreatDoor
