/- The reference Leq; allValid; few, short; pivot, lowered, less, point, node; number, level. -/
import Derived.Test.YtkimijmiphkddaaFb
namespace Go.Proofs.Ytkimijmiphkddaa
open Go.RowKit
set_option linter.unusedSimpArgs false
set_option linter.unusedVariables false

set_option maxRecDepth 100000 in
set_option maxHeartbeats 2000000 in
theorem leqR_fun (A B : Lvl) (ha : A.vs.length ≤ 100000) (hb : B.vs.length ≤ 100000) : Fun Try.prog 26 [lvlA A, lvlA B] (TB (leqB A B)) := by
  refine Fun.of_body 9 86 Try.func26 rfl en_26 rfl (lb rfl) (fun S w => ?_)
  simp only [entry]
  refine XC.seq <| XC.region <| XL.op rfl (XO.box rfl (lb rfl)) <| XL.op rfl (XO.box rfl (lb rfl)) <| oA rfl rfl <| XL.nil <| XQ.seq <| XC.seq <| XC.seq <| XC.region ?_
  first | refine oR rfl rfl rfl (RO.loadOwnAgg ag_39 rfl rfl rfl rfl) ?_ | refine oR rfl rfl rfl (RO.loadPelAgg ag_39 rfl rfl rfl) ?_
  refine XL.op rfl (XO.call1 (validR_fun A ha) rfl (by repeat' constructor) (lb rfl)) ?_
  refine oR rfl rfl rfl (RO.not rfl) <| oM rfl rfl ?_
  refine XL.case (d := 13) rfl (fun c1 => ?_) (fun c1 => ?_)
  ·
    replace c1 := prs c1
    refine XL.offB rfl rfl rfl rfl <| XL.offB rfl rfl rfl rfl <| XL.offB rfl rfl rfl rfl <| oR rfl rfl rfl (RO.pickT rfl rfl) <| XL.nil <| XQ.seq ?_
    refine XC.cond rfl (fun _ => ?_) (fun h => nomatch h)
    refine XC.seq <| XC.region <| oA rfl rfl <| XL.nil <| XQ.seq <| XC.ret ?_
    refine XQ.ret1 (fun _ _ h => h) rfl (RA.tmp rfl) ?s0 rfl
    case s0 => (rw [leq_inv (by rw [c1]; rfl)]); exact (by repeat' constructor)
  ·
    replace c1 := prs c1
    first | refine nR rfl rfl rfl rfl rfl (RO.loadOwnAgg ag_39 rfl rfl rfl rfl) ?_ | refine nR rfl rfl rfl rfl rfl (RO.loadPelAgg ag_39 rfl rfl rfl) ?_
    refine XL.on rfl rfl rfl (XO.call1 (validR_fun B hb) rfl (by repeat' constructor) (lb rfl)) ?_
    refine nR rfl rfl rfl rfl rfl (RO.not rfl) <| oR rfl rfl rfl (RO.pickF rfl rfl) <| XL.nil <| XQ.seq ?_
    refine XC.cond rfl (fun c2 => ?_) (fun c2 => ?_)
    ·
      replace c2 := prs c2
      refine XC.seq <| XC.region <| oA rfl rfl <| XL.nil <| XQ.seq <| XC.ret ?_
      refine XQ.ret1 (fun _ _ h => h) rfl (RA.tmp rfl) ?s0 rfl
      case s0 => (rw [leq_inv (by rw [c1, c2]; rfl)]); exact (by repeat' constructor)
    ·
      replace c2 := prs c2
      refine XC.skip <| XQ.seq <| XC.seq <| XC.region ?_
      first | refine oR rfl rfl rfl (RO.fieldOwn fo_39_0 rfl) ?_ | refine oR rfl rfl rfl (RO.fieldPel fo_39_0 rfl) ?_
      first | refine oR rfl rfl rfl (RO.loadOwn ag_3 rfl rfl rfl) ?_ | refine oR rfl rfl rfl (RO.loadPel ag_3 rfl rfl) ?_
      refine oA rfl rfl <| XL.nil <| XQ.seq <| XC.seq <| XC.seq <| XC.region <| oA rfl rfl <| XL.nil <| XQ.seq <| XC.block ?_
      refine XC.loop (X := Nat) (fun k => ⟨[(2, .v (.one (.ptr 0 0))), (3, .v (.one (.ptr 1 0))), (5, TI (topOf B.c (B.vs.take k))), (6, TI k)], [(0, .cells 39 [.d (.v (.int .i64 A.c)), .d (vsC A.vs)]), (1, .cells 39 [.d (.v (.int .i64 B.c)), .d (vsC B.vs)])], [], 2, 86, []⟩) (fun k => k ≤ B.vs.length) (fun k => B.vs.length - k) 0 ⟨(by repeat' constructor), (by repeat' constructor), (by repeat (first | exact trivial | refine ⟨(by intro T h; first | (cases h; rfl) | cases h), ?_⟩)), (lb rfl), Nat.zero_le _, rfl, rfl, (by simp [tmBelow, TV.below, AV.below, CA.below]), (by simp [hpBelow, HB.below, CA.below]), (by simp [tkBelow]), (by simp)⟩ (Nat.zero_le _) ?_
      rintro k hk
      try dsimp only
      refine XC.seq <| XC.seq <| XC.region <| oM rfl rfl ?_
      first | refine oR rfl rfl rfl (RO.fieldOwn fo_39_1 rfl) ?_ | refine oR rfl rfl rfl (RO.fieldPel fo_39_1 rfl) ?_
      first | refine oR rfl rfl rfl (RO.loadOwn ag_37 rfl rfl rfl) ?_ | refine oR rfl rfl rfl (RO.loadPel ag_37 rfl rfl) ?_
      refine XL.op rfl (XO.of_ro rfl (lb rfl) (RO.len sl_37 rfl (by repeat' constructor))) ?_
      refine oR rfl rfl rfl (RO.cmp rfl rfl rfl) <| XL.nil <| XQ.seq ?_
      refine XC.cond rfl (fun c3 => ?_) (fun c3 => ?_)
      ·
        replace c3 := prs c3
        simp only [List.length_map] at c3
        have hlx : k < B.vs.length := by omega
        obtain ⟨⟨x1, x2⟩, hx⟩ : ∃ x, B.vs[k]? = some x := ⟨_, List.getElem?_eq_getElem hlx⟩
        refine XC.skip <| XQ.seq <| XC.seq <| XC.block <| XC.region <| oM rfl rfl ?_
        first | refine oR rfl rfl rfl (RO.fieldOwn fo_39_1 rfl) ?_ | refine oR rfl rfl rfl (RO.fieldPel fo_39_1 rfl) ?_
        first | refine oR rfl rfl rfl (RO.loadOwn ag_37 rfl rfl rfl) ?_ | refine oR rfl rfl rfl (RO.loadPel ag_37 rfl rfl) ?_
        refine oM rfl rfl ?_
        refine XL.op rfl (XO.of_ro rfl (lb rfl) (RO.index sl_37 rfl (by repeat' constructor) rfl rfl (map_get hx))) ?_
        first | refine oR rfl rfl rfl (RO.fieldOwn fo_59_1 rfl) ?_ | refine oR rfl rfl rfl (RO.fieldPel fo_59_1 rfl) ?_
        first | refine oR rfl rfl rfl (RO.loadOwn ag_3 rfl rfl rfl) ?_ | refine oR rfl rfl rfl (RO.loadPel ag_3 rfl rfl) ?_
        refine oR rfl rfl rfl (RO.max2 rfl rfl) <| oA rfl rfl <| XL.nil <| XQ.inBlock <| XQ.seq <| XC.region <| oM rfl rfl ?_
        refine XL.op rfl (XO.of_ro rfl (lb rfl) (RO.arith rfl rfl rfl (by omega) (by omega))) ?_
        refine oA rfl rfl <| XL.nil ?_
        refine XQ.next (k + 1) ?le (by omega) (by omega)
        case le =>
          try dsimp only
          rw [take_snoc' hx, topOf_snoc]
          exact ⟨(by repeat' constructor), (by repeat' constructor), (by repeat (first | exact trivial | refine ⟨(by intro T h; first | (cases h; rfl) | cases h), ?_⟩)), (lb rfl), Nat.zero_le _, rfl, rfl, (by simp [tmBelow, TV.below, AV.below, CA.below]), (by simp [hpBelow, HB.below, CA.below]), (by simp [tkBelow]), (by simp)⟩
      ·
        replace c3 := prs c3
        have hkB : k = B.vs.length := by simp only [List.length_map] at c3; omega
        subst hkB
        rw [List.take_length]
        refine XC.exit <| XQ.thenE <| XQ.thenE <| XQ.blockX <| XQ.seq <| XC.seq <| XC.seq <| XC.region ?_
        first | refine oR rfl rfl rfl (RO.fieldOwn fo_39_0 rfl) ?_ | refine oR rfl rfl rfl (RO.fieldPel fo_39_0 rfl) ?_
        first | refine oR rfl rfl rfl (RO.loadOwn ag_3 rfl rfl rfl) ?_ | refine oR rfl rfl rfl (RO.loadPel ag_3 rfl rfl) ?_
        refine oM rfl rfl <| oR rfl rfl rfl (RO.cmp rfl rfl rfl) <| XL.nil <| XQ.seq ?_
        refine XC.cond rfl (fun c4 => ?_) (fun c4 => ?_)
        ·
          replace c4 := prs c4
          refine XC.seq <| XC.region <| oA rfl rfl <| XL.nil <| XQ.seq <| XC.ret ?_
          refine XQ.ret1 (fun _ _ h => h) rfl (RA.tmp rfl) ?s0 rfl
          case s0 => (rw [leq_c (by omega)]); exact (by repeat' constructor)
        ·
          replace c4 := prs c4
          refine XC.skip <| XQ.seq <| XC.seq <| XC.seq <| XC.region <| oA rfl rfl <| XL.nil <| XQ.seq <| XC.block ?_
          refine XC.loop (X := Nat) (fun k => ⟨[(2, .v (.one (.ptr 0 0))), (3, .v (.one (.ptr 1 0))), (7, TI k)], [(0, .cells 39 [.d (.v (.int .i64 A.c)), .d (vsC A.vs)]), (1, .cells 39 [.d (.v (.int .i64 B.c)), .d (vsC B.vs)])], [], 2, 86, []⟩) (fun k => k ≤ A.vs.length ∧ ∀ (j : Nat) (x : LV), j < k → A.vs[j]? = some x → (B.vs.any fun y => (y.1 == x.1) && decide (x.2 ≤ y.2)) = true) (fun k => A.vs.length - k) 0 ⟨(by repeat' constructor), (by repeat' constructor), (by repeat (first | exact trivial | refine ⟨(by intro T h; first | (cases h; rfl) | cases h), ?_⟩)), (lb rfl), Nat.zero_le _, rfl, rfl, (by simp [tmBelow, TV.below, AV.below, CA.below]), (by simp [hpBelow, HB.below, CA.below]), (by simp [tkBelow]), (by simp)⟩ ⟨Nat.zero_le _, fun j x h => absurd h (Nat.not_lt_zero j)⟩ ?_
          rintro k ⟨hk, hn⟩
          try dsimp only
          refine XC.seq <| XC.seq <| XC.region <| oM rfl rfl ?_
          first | refine oR rfl rfl rfl (RO.fieldOwn fo_39_1 rfl) ?_ | refine oR rfl rfl rfl (RO.fieldPel fo_39_1 rfl) ?_
          first | refine oR rfl rfl rfl (RO.loadOwn ag_37 rfl rfl rfl) ?_ | refine oR rfl rfl rfl (RO.loadPel ag_37 rfl rfl) ?_
          refine XL.op rfl (XO.of_ro rfl (lb rfl) (RO.len sl_37 rfl (by repeat' constructor))) ?_
          refine oR rfl rfl rfl (RO.cmp rfl rfl rfl) <| XL.nil <| XQ.seq ?_
          refine XC.cond rfl (fun c5 => ?_) (fun c5 => ?_)
          ·
            replace c5 := prs c5
            simp only [List.length_map] at c5
            have hlx : k < A.vs.length := by omega
            obtain ⟨⟨x1, x2⟩, hx⟩ : ∃ x, A.vs[k]? = some x := ⟨_, List.getElem?_eq_getElem hlx⟩
            refine XC.skip <| XQ.seq <| XC.seq <| XC.block <| XC.seq <| XC.region <| oA rfl rfl <| XL.nil <| XQ.seq <| XC.seq <| XC.seq <| XC.region <| oA rfl rfl <| XL.nil ?_
            refine XQ.seq <| XC.block ?_
            refine XC.loop (X := Nat) (fun j => ⟨[(2, .v (.one (.ptr 0 0))), (3, .v (.one (.ptr 1 0))), (7, TI k), (8, TB ((B.vs.take j).any fun y => (y.1 == x1) && decide (x2 ≤ y.2))), (9, TI j)], [(0, .cells 39 [.d (.v (.int .i64 A.c)), .d (vsC A.vs)]), (1, .cells 39 [.d (.v (.int .i64 B.c)), .d (vsC B.vs)])], [], 2, 86, []⟩) (fun j => j ≤ B.vs.length) (fun j => B.vs.length - j) 0 ⟨(by repeat' constructor), (by repeat' constructor), (by repeat (first | exact trivial | refine ⟨(by intro T h; first | (cases h; rfl) | cases h), ?_⟩)), (lb rfl), Nat.zero_le _, rfl, rfl, (by simp [tmBelow, TV.below, AV.below, CA.below]), (by simp [hpBelow, HB.below, CA.below]), (by simp [tkBelow]), (by simp)⟩ (Nat.zero_le _) ?_
            rintro j hj
            try dsimp only
            refine XC.seq <| XC.seq <| XC.region <| oM rfl rfl ?_
            first | refine oR rfl rfl rfl (RO.fieldOwn fo_39_1 rfl) ?_ | refine oR rfl rfl rfl (RO.fieldPel fo_39_1 rfl) ?_
            first | refine oR rfl rfl rfl (RO.loadOwn ag_37 rfl rfl rfl) ?_ | refine oR rfl rfl rfl (RO.loadPel ag_37 rfl rfl) ?_
            refine XL.op rfl (XO.of_ro rfl (lb rfl) (RO.len sl_37 rfl (by repeat' constructor))) ?_
            refine oR rfl rfl rfl (RO.cmp rfl rfl rfl) <| XL.nil <| XQ.seq ?_
            refine XC.cond rfl (fun c6 => ?_) (fun c6 => ?_)
            ·
              replace c6 := prs c6
              simp only [List.length_map] at c6
              have hly : j < B.vs.length := by omega
              obtain ⟨⟨y1, y2⟩, hy⟩ : ∃ x, B.vs[j]? = some x := ⟨_, List.getElem?_eq_getElem hly⟩
              refine XC.skip <| XQ.seq <| XC.seq <| XC.block ?_
              refine XC.draw mixed (by kernel_rfl) ?_
              refine XS.op rfl rfl (lb rfl) (RO.move rfl) <| XS.op rfl rfl (lb rfl) (RO.move rfl) ?_
              refine XS.case (d := 54) rfl (fun c7 => ?_) (fun c7 => ?_)
              ·
                replace c7 := prs c7
                have hval : ((B.vs.take (j + 1)).any fun y => (y.1 == x1) && decide (x2 ≤ y.2)) = true := by rw [any_snoc hy, c7, Bool.true_or]
                refine XS.offB rfl rfl rfl rfl <| XS.offB rfl rfl rfl rfl <| XS.offB rfl rfl rfl rfl <| XS.offB rfl rfl rfl rfl <| XS.offB rfl rfl rfl rfl <| XS.offB rfl rfl rfl rfl <| XS.offB rfl rfl rfl rfl <| XS.offB rfl rfl rfl rfl <| XS.offB rfl rfl rfl rfl <| XS.offB rfl rfl rfl rfl <| XS.offB rfl rfl rfl rfl <| XS.offB rfl rfl rfl rfl <| XS.offB rfl rfl rfl rfl <| XS.offB rfl rfl rfl rfl ?_
                refine XS.offU rfl rfl rfl rfl <| XS.offU rfl rfl rfl rfl <| XS.offU rfl rfl rfl rfl <| XS.offU rfl rfl rfl rfl <| XS.offU rfl rfl rfl rfl <| XS.offU rfl rfl rfl rfl <| XS.offU rfl rfl rfl rfl <| XS.offU rfl rfl rfl rfl <| XS.offU rfl rfl rfl rfl <| XS.offU rfl rfl rfl rfl <| XS.offU rfl rfl rfl rfl <| XS.offU rfl rfl rfl rfl <| XS.offU rfl rfl rfl rfl <| XS.offB rfl rfl rfl rfl ?_
                refine XS.op rfl rfl (lb rfl) (RO.pickT rfl rfl) <| XS.op rfl rfl (lb rfl) (RO.assign rfl) <| XS.nil <| XQ.inBlock <| XQ.seq <| XC.region <| oM rfl rfl ?_
                refine XL.op rfl (XO.of_ro rfl (lb rfl) (RO.arith rfl rfl rfl (by omega) (by omega))) ?_
                refine oA rfl rfl <| XL.nil ?_
                refine XQ.next (j + 1) ?le (by omega) (by omega)
                case le =>
                  try dsimp only
                  rw [hval]
                  exact ⟨(by repeat' constructor), (by repeat' constructor), (by repeat (first | exact trivial | refine ⟨(by intro T h; first | (cases h; rfl) | cases h), ?_⟩)), (lb rfl), Nat.zero_le _, rfl, rfl, (by simp [tmBelow, TV.below, AV.below, CA.below]), (by simp [hpBelow, HB.below, CA.below]), (by simp [tkBelow]), (by simp)⟩
              ·
                replace c7 := prs c7
                have hf0 := c7
                first | refine XS.on rfl rfl rfl rfl (lb rfl) (RO.fieldOwn fo_39_1 rfl) ?_ | refine XS.on rfl rfl rfl rfl (lb rfl) (RO.fieldPel fo_39_1 rfl) ?_
                first | refine XS.on rfl rfl rfl rfl (lb rfl) (RO.loadOwn ag_37 rfl rfl rfl) ?_ | refine XS.on rfl rfl rfl rfl (lb rfl) (RO.loadPel ag_37 rfl rfl) ?_
                refine XS.on rfl rfl rfl rfl (lb rfl) (RO.move rfl) ?_
                refine XS.on rfl rfl rfl rfl (lb rfl) (RO.index sl_37 rfl (by repeat' constructor) rfl rfl (map_get hy)) ?_
                first | refine XS.on rfl rfl rfl rfl (lb rfl) (RO.fieldOwn fo_59_0 rfl) ?_ | refine XS.on rfl rfl rfl rfl (lb rfl) (RO.fieldPel fo_59_0 rfl) ?_
                first | refine XS.on rfl rfl rfl rfl (lb rfl) (RO.loadOwn ag_3 rfl rfl rfl) ?_ | refine XS.on rfl rfl rfl rfl (lb rfl) (RO.loadPel ag_3 rfl rfl) ?_
                first | refine XS.on rfl rfl rfl rfl (lb rfl) (RO.fieldOwn fo_39_1 rfl) ?_ | refine XS.on rfl rfl rfl rfl (lb rfl) (RO.fieldPel fo_39_1 rfl) ?_
                first | refine XS.on rfl rfl rfl rfl (lb rfl) (RO.loadOwn ag_37 rfl rfl rfl) ?_ | refine XS.on rfl rfl rfl rfl (lb rfl) (RO.loadPel ag_37 rfl rfl) ?_
                refine XS.on rfl rfl rfl rfl (lb rfl) (RO.move rfl) ?_
                refine XS.on rfl rfl rfl rfl (lb rfl) (RO.index sl_37 rfl (by repeat' constructor) rfl rfl (map_get hx)) ?_
                first | refine XS.on rfl rfl rfl rfl (lb rfl) (RO.fieldOwn fo_59_0 rfl) ?_ | refine XS.on rfl rfl rfl rfl (lb rfl) (RO.fieldPel fo_59_0 rfl) ?_
                first | refine XS.on rfl rfl rfl rfl (lb rfl) (RO.loadOwn ag_3 rfl rfl rfl) ?_ | refine XS.on rfl rfl rfl rfl (lb rfl) (RO.loadPel ag_3 rfl rfl) ?_
                refine XS.on rfl rfl rfl rfl (lb rfl) (RO.cmp rfl rfl rfl) <| XS.on rfl rfl rfl rfl (lb rfl) (RO.move rfl) ?_
                refine XS.case (d := 68) rfl (fun c8 => ?_) (fun c8 => ?_)
                ·
                  replace c8 := prs c8
                  have hval : ((B.vs.take (j + 1)).any fun y => (y.1 == x1) && decide (x2 ≤ y.2)) = decide (x2 ≤ y2) := by rw [any_snoc hy, hf0, Bool.false_or]; simp [show y1 = x1 by simpa using c8]
                  first | refine XS.on rfl rfl rfl rfl (lb rfl) (RO.fieldOwn fo_39_1 rfl) ?_ | refine XS.on rfl rfl rfl rfl (lb rfl) (RO.fieldPel fo_39_1 rfl) ?_
                  first | refine XS.on rfl rfl rfl rfl (lb rfl) (RO.loadOwn ag_37 rfl rfl rfl) ?_ | refine XS.on rfl rfl rfl rfl (lb rfl) (RO.loadPel ag_37 rfl rfl) ?_
                  refine XS.on rfl rfl rfl rfl (lb rfl) (RO.move rfl) ?_
                  refine XS.on rfl rfl rfl rfl (lb rfl) (RO.index sl_37 rfl (by repeat' constructor) rfl rfl (map_get hy)) ?_
                  first | refine XS.on rfl rfl rfl rfl (lb rfl) (RO.fieldOwn fo_59_1 rfl) ?_ | refine XS.on rfl rfl rfl rfl (lb rfl) (RO.fieldPel fo_59_1 rfl) ?_
                  first | refine XS.on rfl rfl rfl rfl (lb rfl) (RO.loadOwn ag_3 rfl rfl rfl) ?_ | refine XS.on rfl rfl rfl rfl (lb rfl) (RO.loadPel ag_3 rfl rfl) ?_
                  first | refine XS.on rfl rfl rfl rfl (lb rfl) (RO.fieldOwn fo_39_1 rfl) ?_ | refine XS.on rfl rfl rfl rfl (lb rfl) (RO.fieldPel fo_39_1 rfl) ?_
                  first | refine XS.on rfl rfl rfl rfl (lb rfl) (RO.loadOwn ag_37 rfl rfl rfl) ?_ | refine XS.on rfl rfl rfl rfl (lb rfl) (RO.loadPel ag_37 rfl rfl) ?_
                  refine XS.on rfl rfl rfl rfl (lb rfl) (RO.move rfl) ?_
                  refine XS.on rfl rfl rfl rfl (lb rfl) (RO.index sl_37 rfl (by repeat' constructor) rfl rfl (map_get hx)) ?_
                  first | refine XS.on rfl rfl rfl rfl (lb rfl) (RO.fieldOwn fo_59_1 rfl) ?_ | refine XS.on rfl rfl rfl rfl (lb rfl) (RO.fieldPel fo_59_1 rfl) ?_
                  first | refine XS.on rfl rfl rfl rfl (lb rfl) (RO.loadOwn ag_3 rfl rfl rfl) ?_ | refine XS.on rfl rfl rfl rfl (lb rfl) (RO.loadPel ag_3 rfl rfl) ?_
                  refine XS.on rfl rfl rfl rfl (lb rfl) (RO.cmp rfl rfl rfl) <| XS.on rfl rfl rfl rfl (lb rfl) (RO.pickT rfl rfl) <| XS.op rfl rfl (lb rfl) (RO.pickF rfl rfl) <| XS.op rfl rfl (lb rfl) (RO.assign rfl) <| XS.nil <| XQ.inBlock <| XQ.seq <| XC.region <| oM rfl rfl ?_
                  refine XL.op rfl (XO.of_ro rfl (lb rfl) (RO.arith rfl rfl rfl (by omega) (by omega))) ?_
                  refine oA rfl rfl <| XL.nil ?_
                  refine XQ.next (j + 1) ?le (by omega) (by omega)
                  case le =>
                    try dsimp only
                    rw [hval]
                    exact ⟨(by repeat' constructor), (by repeat' constructor), (by repeat (first | exact trivial | refine ⟨(by intro T h; first | (cases h; rfl) | cases h), ?_⟩)), (lb rfl), Nat.zero_le _, rfl, rfl, (by simp [tmBelow, TV.below, AV.below, CA.below]), (by simp [hpBelow, HB.below, CA.below]), (by simp [tkBelow]), (by simp)⟩
                ·
                  replace c8 := prs c8
                  have hval : ((B.vs.take (j + 1)).any fun y => (y.1 == x1) && decide (x2 ≤ y.2)) = false := by rw [any_snoc hy, hf0, Bool.false_or]; simp [c8]
                  refine XS.offB rfl rfl rfl rfl <| XS.offB rfl rfl rfl rfl <| XS.offB rfl rfl rfl rfl <| XS.offB rfl rfl rfl rfl <| XS.offB rfl rfl rfl rfl <| XS.offB rfl rfl rfl rfl <| XS.offB rfl rfl rfl rfl <| XS.offB rfl rfl rfl rfl <| XS.offB rfl rfl rfl rfl <| XS.offB rfl rfl rfl rfl <| XS.offB rfl rfl rfl rfl <| XS.offB rfl rfl rfl rfl <| XS.offB rfl rfl rfl rfl <| XS.on rfl rfl rfl rfl (lb rfl) (RO.pickF rfl rfl) ?_
                  refine XS.op rfl rfl (lb rfl) (RO.pickF rfl rfl) <| XS.op rfl rfl (lb rfl) (RO.assign rfl) <| XS.nil <| XQ.inBlock <| XQ.seq <| XC.region <| oM rfl rfl ?_
                  refine XL.op rfl (XO.of_ro rfl (lb rfl) (RO.arith rfl rfl rfl (by omega) (by omega))) ?_
                  refine oA rfl rfl <| XL.nil ?_
                  refine XQ.next (j + 1) ?le (by omega) (by omega)
                  case le =>
                    try dsimp only
                    rw [hval]
                    exact ⟨(by repeat' constructor), (by repeat' constructor), (by repeat (first | exact trivial | refine ⟨(by intro T h; first | (cases h; rfl) | cases h), ?_⟩)), (lb rfl), Nat.zero_le _, rfl, rfl, (by simp [tmBelow, TV.below, AV.below, CA.below]), (by simp [hpBelow, HB.below, CA.below]), (by simp [tkBelow]), (by simp)⟩
            ·
              replace c6 := prs c6
              have hjB : j = B.vs.length := by simp only [List.length_map] at c6; omega
              subst hjB
              rw [List.take_length]
              refine XC.exit <| XQ.thenE <| XQ.thenE <| XQ.blockX <| XQ.seq <| XC.seq <| XC.region <| oM rfl rfl <| oR rfl rfl rfl (RO.not rfl) <| XL.nil <| XQ.seq ?_
              refine XC.cond rfl (fun c9 => ?_) (fun c9 => ?_)
              ·
                replace c9 := prs c9
                refine XC.seq <| XC.region <| oA rfl rfl <| XL.nil <| XQ.seq <| XC.ret ?_
                refine XQ.ret1 (fun _ _ h => h) rfl (RA.tmp rfl) ?s0 rfl
                case s0 => (rw [leq_false_at hx (by assumption)]); exact (by repeat' constructor)
              ·
                replace c9 := prs c9
                refine XC.skip <| XQ.inBlock <| XQ.seq <| XC.region <| oM rfl rfl ?_
                refine XL.op rfl (XO.of_ro rfl (lb rfl) (RO.arith rfl rfl rfl (by omega) (by omega))) ?_
                refine oA rfl rfl <| XL.nil ?_
                refine XQ.next (k + 1) ⟨(by repeat' constructor), (by repeat' constructor), (by repeat (first | exact trivial | refine ⟨(by intro T h; first | (cases h; rfl) | cases h), ?_⟩)), (lb rfl), Nat.zero_le _, rfl, rfl, (by simp [tmBelow, TV.below, AV.below, CA.below]), (by simp [hpBelow, HB.below, CA.below]), (by simp [tkBelow]), (by simp)⟩ ⟨by omega, ?_⟩ (by omega)
                intro j x hj h
                rcases Nat.lt_or_ge j k with h2 | h2
                · exact hn j x h2 h
                · obtain rfl : j = k := by omega
                  rw [hx] at h; cases h; assumption
          ·
            replace c5 := prs c5
            refine XC.exit <| XQ.thenE <| XQ.thenE <| XQ.blockX <| XQ.seq <| XC.seq <| XC.region <| oA rfl rfl <| XL.nil <| XQ.seq <| XC.ret ?_
            refine XQ.ret1 (fun _ _ h => h) rfl (RA.tmp rfl) ?s0 rfl
            case s0 => (rw [leq_true_of (by assumption) (by assumption) (by omega) (fun j x hj hx => hn j x (by simp only [List.length_map] at *; omega) hx)]); exact (by repeat' constructor)

set_option maxRecDepth 100000 in
theorem allValid1 (L : Lvl) (hlen : L.vs.length ≤ 100000) : Fun Try.prog 81 [lvlA L] (TB (!validB L)) := by
  refine Fun.of_body 9 6 Try.func81 rfl en_81 rfl (lb rfl) (fun S w => ?_)
  simp only [entry]
  refine XC.seq <| XC.region <| XL.op rfl (XO.box rfl (lb rfl)) <| oA rfl rfl <| XL.nil <| XQ.seq <| XC.seq <| XC.region ?_
  first | refine oR rfl rfl rfl (RO.loadOwnAgg ag_39 rfl rfl rfl rfl) ?_ | refine oR rfl rfl rfl (RO.loadPelAgg ag_39 rfl rfl rfl) ?_
  refine XL.op rfl (XO.call1 (valid_fun L hlen) rfl (by repeat' constructor) (lb rfl)) ?_
  refine oR rfl rfl rfl (RO.not rfl) <| oA rfl rfl <| XL.nil <| XQ.seq <| XC.ret ?_
  refine XQ.ret1 (fun _ _ h => h) rfl (RA.tmp rfl) ?s0 rfl
  case s0 => exact (by repeat' constructor)

set_option maxRecDepth 100000 in
theorem allValid_fun (l : List Lvl) (hlen : l.length ≤ 100000) (hvs : ∀ L ∈ l, L.vs.length ≤ 100000) : Fun Try.prog 65 [.one (.d (lvlsC l))] (TB (l.all validB)) := by
  refine Fun.of_body 9 6 Try.func65 rfl en_65 rfl (lb rfl) (fun S w => ?_)
  simp only [entry]
  refine XC.seq <| XC.region <| oA rfl rfl <| XL.nil <| XQ.seq <| XC.seq <| XC.region <| oM rfl rfl ?_
  refine XL.op rfl (XO.callB2 (.inl ⟨rfl, rfl⟩) (containsLvl l (fun L => !validB L) 81 [] hlen (fun L hL => allValid1 L (hvs L hL))) (by first | exact Plain.v _ rfl | exact Plain.tup [_, _] (by simp [Value.oneCell'])) rfl (by repeat' constructor) rfl (by repeat' constructor) (lb rfl)) ?_
  refine oR rfl rfl rfl (RO.not rfl) <| oA rfl rfl <| XL.nil <| XQ.seq <| XC.ret ?_
  refine XQ.ret1 (fun _ _ h => h) rfl (RA.tmp rfl) ?s0 rfl
  case s0 => (rw [← all_any]); exact (by repeat' constructor)

set_option maxRecDepth 100000 in
theorem allValidR_fun (l : List Lvl) (hlen : l.length ≤ 100000) (hvs : ∀ L ∈ l, L.vs.length ≤ 100000) : Fun Try.prog 72 [.one (.d (lvlsC l))] (TB (l.all validB)) := by
  refine Fun.of_body 9 16 Try.func72 rfl en_72 rfl (lb rfl) (fun S w => ?_)
  simp only [entry]
  refine XC.seq <| XC.region <| oA rfl rfl <| XL.nil <| XQ.seq <| XC.seq <| XC.seq <| XC.region <| oA rfl rfl <| XL.nil <| XQ.seq <| XC.block ?_
  refine XC.loop (X := Nat) (fun k => ⟨[(0, .v (.one (.d (lvlsC l)))), (3, TI k)], [], [], 0, 16, []⟩) (fun k => k ≤ l.length ∧ ∀ (j : Nat) (x : Lvl), j < k → l[j]? = some x → validB x = true) (fun k => l.length - k) 0 ⟨(by repeat' constructor), (by repeat' constructor), (by repeat (first | exact trivial | refine ⟨(by intro T h; first | (cases h; rfl) | cases h), ?_⟩)), (lb rfl), Nat.zero_le _, rfl, rfl, (by simp [tmBelow, TV.below, AV.below, CA.below]), (by simp [hpBelow, HB.below, CA.below]), (by simp [tkBelow]), (by simp)⟩ ⟨Nat.zero_le _, fun j x h => absurd h (Nat.not_lt_zero j)⟩ ?_
  rintro k ⟨hk, hn⟩
  try dsimp only
  refine XC.seq <| XC.seq <| XC.region <| oM rfl rfl <| oM rfl rfl ?_
  refine XL.op rfl (XO.of_ro rfl (lb rfl) (RO.len sl_31 rfl (by repeat' constructor))) ?_
  refine oR rfl rfl rfl (RO.cmp rfl rfl rfl) <| XL.nil <| XQ.seq ?_
  refine XC.cond rfl (fun c1 => ?_) (fun c1 => ?_)
  ·
    replace c1 := prs c1
    simp only [List.length_map] at c1
    have hlx : k < l.length := by omega
    obtain ⟨x, hx⟩ : ∃ x, l[k]? = some x := ⟨_, List.getElem?_eq_getElem hlx⟩
    refine XC.skip <| XQ.seq <| XC.seq <| XC.block <| XC.seq <| XC.region <| oM rfl rfl <| oM rfl rfl ?_
    refine XL.op rfl (XO.of_ro rfl (lb rfl) (RO.index sl_31 rfl (by repeat' constructor) rfl rfl (map_get hx))) ?_
    first | refine oR rfl rfl rfl (RO.loadOwnAgg ag_39 rfl rfl rfl rfl) ?_ | refine oR rfl rfl rfl (RO.loadPelAgg ag_39 rfl rfl rfl) ?_
    refine XL.op rfl (XO.call1 (validR_fun x (hvs x (List.mem_of_getElem? hx))) rfl (by repeat' constructor) (lb rfl)) ?_
    refine oR rfl rfl rfl (RO.not rfl) <| XL.nil <| XQ.seq ?_
    refine XC.cond rfl (fun c2 => ?_) (fun c2 => ?_)
    ·
      replace c2 := prs c2
      refine XC.seq <| XC.region <| oA rfl rfl <| XL.nil <| XQ.seq <| XC.ret ?_
      refine XQ.ret1 (fun _ _ h => h) rfl (RA.tmp rfl) ?s0 rfl
      case s0 => (rw [all_false_at hx (by assumption)]); exact (by repeat' constructor)
    ·
      replace c2 := prs c2
      refine XC.skip <| XQ.inBlock <| XQ.seq <| XC.region <| oM rfl rfl ?_
      refine XL.op rfl (XO.of_ro rfl (lb rfl) (RO.arith rfl rfl rfl (by omega) (by omega))) ?_
      refine oA rfl rfl <| XL.nil ?_
      refine XQ.next (k + 1) ⟨(by repeat' constructor), (by repeat' constructor), (by repeat (first | exact trivial | refine ⟨(by intro T h; first | (cases h; rfl) | cases h), ?_⟩)), (lb rfl), Nat.zero_le _, rfl, rfl, (by simp [tmBelow, TV.below, AV.below, CA.below]), (by simp [hpBelow, HB.below, CA.below]), (by simp [tkBelow]), (by simp)⟩ ⟨by omega, ?_⟩ (by omega)
      intro j y hj h
      rcases Nat.lt_or_ge j k with h2 | h2
      · exact hn j y h2 h
      · obtain rfl : j = k := by omega
        rw [hx] at h; cases h; assumption
  ·
    replace c1 := prs c1
    refine XC.exit <| XQ.thenE <| XQ.thenE <| XQ.blockX <| XQ.seq <| XC.seq <| XC.region <| oA rfl rfl <| XL.nil <| XQ.seq <| XC.ret ?_
    refine XQ.ret1 (fun _ _ h => h) rfl (RA.tmp rfl) ?s0 rfl
    case s0 => (rw [all_true_of (fun j x h => hn j x (by have := (List.getElem?_eq_some_iff.1 h).1; simp only [List.length_map] at *; omega) h)]); exact (by repeat' constructor)

set_option maxRecDepth 100000 in
theorem few_fun (l : List Bnd) : Fun Try.prog 11 [.one (.d (bndsC l))] (TB (fewB l)) := by
  refine Fun.of_body 9 35 Try.func11 rfl en_11 rfl (lb rfl) (fun S w => ?_)
  simp only [entry]
  refine XC.seq <| XC.region <| oA rfl rfl <| XL.nil <| XQ.seq <| XC.seq <| XC.seq <| XC.region <| oA rfl rfl <| XL.nil <| XQ.seq <| XC.block ?_
  refine XC.loop (X := Nat) (fun k => ⟨[(0, .v (.one (.d (bndsC l)))), (3, TI k)], [], [], 0, 35, []⟩) (fun k => k ≤ 12 ∧ ∀ (j : Nat) (x : Bnd), j < k → l[j]? = some x → fewP x = true) (fun k => 12 - k) 0 ⟨(by repeat' constructor), (by repeat' constructor), (by repeat (first | exact trivial | refine ⟨(by intro T h; first | (cases h; rfl) | cases h), ?_⟩)), (lb rfl), Nat.zero_le _, rfl, rfl, (by simp [tmBelow, TV.below, AV.below, CA.below]), (by simp [hpBelow, HB.below, CA.below]), (by simp [tkBelow]), (by simp)⟩ ⟨Nat.zero_le _, fun j x h => absurd h (Nat.not_lt_zero j)⟩ ?_
  rintro k ⟨hk, hn⟩
  try dsimp only
  refine XC.seq <| XC.seq <| XC.region <| oM rfl rfl <| oM rfl rfl ?_
  refine XL.op rfl (XO.of_ro rfl (lb rfl) (RO.len sl_22 rfl (by repeat' constructor))) ?_
  refine oR rfl rfl rfl (RO.cmp rfl rfl rfl) <| oM rfl rfl ?_
  refine XL.case (d := 8) rfl (fun c1 => ?_) (fun c1 => ?_)
  ·
    replace c1 := prs c1
    simp only [List.length_map] at c1
    have hlx : k < l.length := by omega
    refine nR rfl rfl rfl rfl rfl (RO.move rfl) <| nR rfl rfl rfl rfl rfl (RO.cmp rfl rfl rfl) <| oR rfl rfl rfl (RO.pickT rfl rfl) <| XL.nil <| XQ.seq ?_
    refine XC.cond rfl (fun c2 => ?_) (fun c2 => ?_)
    ·
      replace c2 := prs c2
      obtain ⟨x, hx⟩ : ∃ x, l[k]? = some x := ⟨_, List.getElem?_eq_getElem hlx⟩
      refine XC.skip <| XQ.seq <| XC.seq <| XC.block <| XC.seq <| XC.region <| oM rfl rfl <| oM rfl rfl ?_
      refine XL.op rfl (XO.of_ro rfl (lb rfl) (RO.index sl_22 rfl (by repeat' constructor) rfl rfl (map_get hx))) ?_
      first | refine oR rfl rfl rfl (RO.fieldOwn fo_41_0 rfl) ?_ | refine oR rfl rfl rfl (RO.fieldPel fo_41_0 rfl) ?_
      first | refine oR rfl rfl rfl (RO.fieldOwn fo_39_1 rfl) ?_ | refine oR rfl rfl rfl (RO.fieldPel fo_39_1 rfl) ?_
      first | refine oR rfl rfl rfl (RO.loadOwn ag_37 rfl rfl rfl) ?_ | refine oR rfl rfl rfl (RO.loadPel ag_37 rfl rfl) ?_
      refine XL.op rfl (XO.of_ro rfl (lb rfl) (RO.len sl_37 rfl (by repeat' constructor))) ?_
      refine oR rfl rfl rfl (RO.cmp rfl rfl rfl) <| oM rfl rfl ?_
      refine XL.case (d := 22) rfl (fun c3 => ?_) (fun c3 => ?_)
      ·
        replace c3 := prs c3
        simp only [List.length_map] at c3
        refine XL.offB rfl rfl rfl rfl <| XL.offB rfl rfl rfl rfl <| XL.offB rfl rfl rfl rfl <| XL.offB rfl rfl rfl rfl <| XL.offB rfl rfl rfl rfl <| XL.offB rfl rfl rfl rfl <| XL.offB rfl rfl rfl rfl <| XL.offB rfl rfl rfl rfl <| oR rfl rfl rfl (RO.pickT rfl rfl) <| XL.nil <| XQ.seq ?_
        refine XC.cond rfl (fun _ => ?_) (fun h => nomatch h)
        refine XC.seq <| XC.region <| oA rfl rfl <| XL.nil <| XQ.seq <| XC.ret ?_
        refine XQ.ret1 (fun _ _ h => h) rfl (RA.tmp rfl) ?s0 rfl
        case s0 => (rw [few_at hx (by simp only [fewP, Bool.and_eq_false_iff, decide_eq_false_iff_not]; omega)]); exact (by repeat' constructor)
      ·
        replace c3 := prs c3
        simp only [List.length_map] at c3
        refine nR rfl rfl rfl rfl rfl (RO.move rfl) <| nR rfl rfl rfl rfl rfl (RO.move rfl) ?_
        refine XL.on rfl rfl rfl (XO.of_ro rfl (lb rfl) (RO.index sl_22 rfl (by repeat' constructor) rfl rfl (map_get hx))) ?_
        first | refine nR rfl rfl rfl rfl rfl (RO.fieldOwn fo_41_1 rfl) ?_ | refine nR rfl rfl rfl rfl rfl (RO.fieldPel fo_41_1 rfl) ?_
        first | refine nR rfl rfl rfl rfl rfl (RO.fieldOwn fo_39_1 rfl) ?_ | refine nR rfl rfl rfl rfl rfl (RO.fieldPel fo_39_1 rfl) ?_
        first | refine nR rfl rfl rfl rfl rfl (RO.loadOwn ag_37 rfl rfl rfl) ?_ | refine nR rfl rfl rfl rfl rfl (RO.loadPel ag_37 rfl rfl) ?_
        refine XL.on rfl rfl rfl (XO.of_ro rfl (lb rfl) (RO.len sl_37 rfl (by repeat' constructor))) ?_
        refine nR rfl rfl rfl rfl rfl (RO.cmp rfl rfl rfl) <| oR rfl rfl rfl (RO.pickF rfl rfl) <| XL.nil <| XQ.seq ?_
        refine XC.cond rfl (fun c4 => ?_) (fun c4 => ?_)
        ·
          replace c4 := prs c4
          try simp only [List.length_map] at c4
          refine XC.seq <| XC.region <| oA rfl rfl <| XL.nil <| XQ.seq <| XC.ret ?_
          refine XQ.ret1 (fun _ _ h => h) rfl (RA.tmp rfl) ?s0 rfl
          case s0 => (rw [few_at hx (by simp only [fewP, Bool.and_eq_false_iff, decide_eq_false_iff_not]; omega)]); exact (by repeat' constructor)
        ·
          replace c4 := prs c4
          try simp only [List.length_map] at c4
          refine XC.skip <| XQ.inBlock <| XQ.seq <| XC.region <| oM rfl rfl ?_
          refine XL.op rfl (XO.of_ro rfl (lb rfl) (RO.arith rfl rfl rfl (by omega) (by omega))) ?_
          refine oA rfl rfl <| XL.nil ?_
          refine XQ.next (k + 1) ⟨(by repeat' constructor), (by repeat' constructor), (by repeat (first | exact trivial | refine ⟨(by intro T h; first | (cases h; rfl) | cases h), ?_⟩)), (lb rfl), Nat.zero_le _, rfl, rfl, (by simp [tmBelow, TV.below, AV.below, CA.below]), (by simp [hpBelow, HB.below, CA.below]), (by simp [tkBelow]), (by simp)⟩ ⟨by omega, ?_⟩ (by omega)
          intro j y hj h
          rcases Nat.lt_or_ge j k with h2 | h2
          · exact hn j y h2 h
          · obtain rfl : j = k := by omega
            rw [hx] at h; cases h; simp only [fewP, Bool.and_eq_true, decide_eq_true_eq]; omega
    ·
      replace c2 := prs c2
      refine XC.exit <| XQ.thenE <| XQ.thenE <| XQ.blockX <| XQ.seq <| XC.seq <| XC.region <| oM rfl rfl ?_
      refine XL.op rfl (XO.of_ro rfl (lb rfl) (RO.len sl_22 rfl (by repeat' constructor))) ?_
      refine oR rfl rfl rfl (RO.cmp rfl rfl rfl) <| oA rfl rfl <| XL.nil <| XQ.seq <| XC.ret ?_
      refine XQ.ret1 (fun _ _ h => h) rfl (RA.tmp rfl) ?s0 rfl
      case s0 => (rw [few_of hn (by omega), List.length_map]); exact (by repeat' constructor)
  ·
    replace c1 := prs c1
    simp only [List.length_map] at c1
    have hlx : l.length ≤ k := by omega
    refine XL.offB rfl rfl rfl rfl <| XL.offB rfl rfl rfl rfl <| oR rfl rfl rfl (RO.pickF rfl rfl) <| XL.nil <| XQ.seq ?_
    refine XC.cond rfl (fun h => nomatch h) (fun _ => ?_)
    refine XC.exit <| XQ.thenE <| XQ.thenE <| XQ.blockX <| XQ.seq <| XC.seq <| XC.region <| oM rfl rfl ?_
    refine XL.op rfl (XO.of_ro rfl (lb rfl) (RO.len sl_22 rfl (by repeat' constructor))) ?_
    refine oR rfl rfl rfl (RO.cmp rfl rfl rfl) <| oA rfl rfl <| XL.nil <| XQ.seq <| XC.ret ?_
    refine XQ.ret1 (fun _ _ h => h) rfl (RA.tmp rfl) ?s0 rfl
    case s0 => (rw [few_of hn (by omega), List.length_map]); exact (by repeat' constructor)

set_option maxRecDepth 100000 in
theorem short_fun (l : List Lvl) : Fun Try.prog 23 [.one (.d (lvlsC l))] (TB (shortB l)) := by
  refine Fun.of_body 9 24 Try.func23 rfl en_23 rfl (lb rfl) (fun S w => ?_)
  simp only [entry]
  refine XC.seq <| XC.region <| oA rfl rfl <| XL.nil <| XQ.seq <| XC.seq <| XC.seq <| XC.region <| oA rfl rfl <| XL.nil <| XQ.seq <| XC.block ?_
  refine XC.loop (X := Nat) (fun k => ⟨[(0, .v (.one (.d (lvlsC l)))), (3, TI k)], [], [], 0, 24, []⟩) (fun k => k ≤ 10 ∧ ∀ (j : Nat) (x : Lvl), j < k → l[j]? = some x → shortP x = true) (fun k => 10 - k) 0 ⟨(by repeat' constructor), (by repeat' constructor), (by repeat (first | exact trivial | refine ⟨(by intro T h; first | (cases h; rfl) | cases h), ?_⟩)), (lb rfl), Nat.zero_le _, rfl, rfl, (by simp [tmBelow, TV.below, AV.below, CA.below]), (by simp [hpBelow, HB.below, CA.below]), (by simp [tkBelow]), (by simp)⟩ ⟨Nat.zero_le _, fun j x h => absurd h (Nat.not_lt_zero j)⟩ ?_
  rintro k ⟨hk, hn⟩
  try dsimp only
  refine XC.seq <| XC.seq <| XC.region <| oM rfl rfl <| oM rfl rfl ?_
  refine XL.op rfl (XO.of_ro rfl (lb rfl) (RO.len sl_31 rfl (by repeat' constructor))) ?_
  refine oR rfl rfl rfl (RO.cmp rfl rfl rfl) <| oM rfl rfl ?_
  refine XL.case (d := 8) rfl (fun c1 => ?_) (fun c1 => ?_)
  ·
    replace c1 := prs c1
    simp only [List.length_map] at c1
    have hlx : k < l.length := by omega
    refine nR rfl rfl rfl rfl rfl (RO.move rfl) <| nR rfl rfl rfl rfl rfl (RO.cmp rfl rfl rfl) <| oR rfl rfl rfl (RO.pickT rfl rfl) <| XL.nil <| XQ.seq ?_
    refine XC.cond rfl (fun c2 => ?_) (fun c2 => ?_)
    ·
      replace c2 := prs c2
      obtain ⟨x, hx⟩ : ∃ x, l[k]? = some x := ⟨_, List.getElem?_eq_getElem hlx⟩
      refine XC.skip <| XQ.seq <| XC.seq <| XC.block <| XC.seq <| XC.region <| oM rfl rfl <| oM rfl rfl ?_
      refine XL.op rfl (XO.of_ro rfl (lb rfl) (RO.index sl_31 rfl (by repeat' constructor) rfl rfl (map_get hx))) ?_
      first | refine oR rfl rfl rfl (RO.fieldOwn fo_39_1 rfl) ?_ | refine oR rfl rfl rfl (RO.fieldPel fo_39_1 rfl) ?_
      first | refine oR rfl rfl rfl (RO.loadOwn ag_37 rfl rfl rfl) ?_ | refine oR rfl rfl rfl (RO.loadPel ag_37 rfl rfl) ?_
      refine XL.op rfl (XO.of_ro rfl (lb rfl) (RO.len sl_37 rfl (by repeat' constructor))) ?_
      refine oR rfl rfl rfl (RO.cmp rfl rfl rfl) <| XL.nil <| XQ.seq ?_
      refine XC.cond rfl (fun c3 => ?_) (fun c3 => ?_)
      ·
        replace c3 := prs c3
        try simp only [List.length_map] at c3
        refine XC.seq <| XC.region <| oA rfl rfl <| XL.nil <| XQ.seq <| XC.ret ?_
        refine XQ.ret1 (fun _ _ h => h) rfl (RA.tmp rfl) ?s0 rfl
        case s0 => (rw [short_at hx (by simp only [shortP, decide_eq_false_iff_not]; omega)]); exact (by repeat' constructor)
      ·
        replace c3 := prs c3
        try simp only [List.length_map] at c3
        refine XC.skip <| XQ.inBlock <| XQ.seq <| XC.region <| oM rfl rfl ?_
        refine XL.op rfl (XO.of_ro rfl (lb rfl) (RO.arith rfl rfl rfl (by omega) (by omega))) ?_
        refine oA rfl rfl <| XL.nil ?_
        refine XQ.next (k + 1) ⟨(by repeat' constructor), (by repeat' constructor), (by repeat (first | exact trivial | refine ⟨(by intro T h; first | (cases h; rfl) | cases h), ?_⟩)), (lb rfl), Nat.zero_le _, rfl, rfl, (by simp [tmBelow, TV.below, AV.below, CA.below]), (by simp [hpBelow, HB.below, CA.below]), (by simp [tkBelow]), (by simp)⟩ ⟨by omega, ?_⟩ (by omega)
        intro j y hj h
        rcases Nat.lt_or_ge j k with h2 | h2
        · exact hn j y h2 h
        · obtain rfl : j = k := by omega
          rw [hx] at h; cases h; simp only [shortP, decide_eq_true_eq]; omega
    ·
      replace c2 := prs c2
      refine XC.exit <| XQ.thenE <| XQ.thenE <| XQ.blockX <| XQ.seq <| XC.seq <| XC.region <| oM rfl rfl ?_
      refine XL.op rfl (XO.of_ro rfl (lb rfl) (RO.len sl_31 rfl (by repeat' constructor))) ?_
      refine oR rfl rfl rfl (RO.cmp rfl rfl rfl) <| oA rfl rfl <| XL.nil <| XQ.seq <| XC.ret ?_
      refine XQ.ret1 (fun _ _ h => h) rfl (RA.tmp rfl) ?s0 rfl
      case s0 => (rw [short_of hn (by omega), List.length_map]); exact (by repeat' constructor)
  ·
    replace c1 := prs c1
    simp only [List.length_map] at c1
    have hlx : l.length ≤ k := by omega
    refine XL.offB rfl rfl rfl rfl <| XL.offB rfl rfl rfl rfl <| oR rfl rfl rfl (RO.pickF rfl rfl) <| XL.nil <| XQ.seq ?_
    refine XC.cond rfl (fun h => nomatch h) (fun _ => ?_)
    refine XC.exit <| XQ.thenE <| XQ.thenE <| XQ.blockX <| XQ.seq <| XC.seq <| XC.region <| oM rfl rfl ?_
    refine XL.op rfl (XO.of_ro rfl (lb rfl) (RO.len sl_31 rfl (by repeat' constructor))) ?_
    refine oR rfl rfl rfl (RO.cmp rfl rfl rfl) <| oA rfl rfl <| XL.nil <| XQ.seq <| XC.ret ?_
    refine XQ.ret1 (fun _ _ h => h) rfl (RA.tmp rfl) ?s0 rfl
    case s0 => (rw [short_of hn (by omega), List.length_map]); exact (by repeat' constructor)

set_option maxRecDepth 100000 in
theorem pivot_fun (L : Lvl) (hlen : L.vs.length ≤ 100000) (hr : ∀ x ∈ L.vs, -9223372036854775808 ≤ x.1) : Fun Try.prog 54 [lvlA L] (resII (pivL L.vs)) := by
  refine Fun.of_body 9 27 Try.func54 rfl en_54 rfl (lb rfl) (fun S w => ?_)
  simp only [entry]
  refine XC.seq <| XC.region <| XL.op rfl (XO.box rfl (lb rfl)) <| oA rfl rfl <| oA rfl rfl <| XL.nil <| XQ.seq <| XC.seq <| XC.seq <| XC.region ?_
  first | refine oR rfl rfl rfl (RO.fieldOwn fo_39_1 rfl) ?_ | refine oR rfl rfl rfl (RO.fieldPel fo_39_1 rfl) ?_
  first | refine oR rfl rfl rfl (RO.loadOwn ag_37 rfl rfl rfl) ?_ | refine oR rfl rfl rfl (RO.loadPel ag_37 rfl rfl) ?_
  refine XL.op rfl (XO.of_ro rfl (lb rfl) (RO.len sl_37 rfl (by repeat' constructor))) ?_
  rw [List.length_map]
  refine XL.op rfl (XO.of_ro rfl (lb rfl) (RO.arith rfl rfl rfl (by omega) (by omega))) ?_
  refine oA rfl rfl <| XL.nil <| XQ.seq <| XC.block ?_
  refine XC.loop (X := Nat) (fun m => ⟨[(1, .v (.one (.ptr 0 0))), (4, TI ((m : Int) - 1))], [(0, .cells 39 [.d (.v (.int .i64 L.c)), .d (vsC L.vs)])], [], 1, 27, []⟩) (fun m => m ≤ L.vs.length ∧ pivL L.vs = pivL (L.vs.take m)) (fun m => m) L.vs.length ⟨(by repeat' constructor), (by repeat' constructor), (by repeat (first | exact trivial | refine ⟨(by intro T h; first | (cases h; rfl) | cases h), ?_⟩)), (lb rfl), Nat.zero_le _, rfl, rfl, (by simp [tmBelow, TV.below, AV.below, CA.below]), (by simp [hpBelow, HB.below, CA.below]), (by simp [tkBelow]), (by simp)⟩ ⟨Nat.le_refl _, by rw [List.take_length]⟩ ?_
  rintro m ⟨hm, he⟩
  try dsimp only
  refine XC.seq <| XC.seq <| XC.region <| oM rfl rfl <| oR rfl rfl rfl (RO.cmp rfl rfl rfl) <| XL.nil <| XQ.seq ?_
  refine XC.cond rfl (fun c1 => ?_) (fun c1 => ?_)
  ·
    replace c1 := prs c1
    obtain ⟨m', rfl⟩ : ∃ m', m = m' + 1 := ⟨m - 1, by omega⟩
    obtain ⟨⟨x1, x2⟩, hx⟩ : ∃ x, L.vs[m']? = some x := ⟨_, List.getElem?_eq_getElem (by omega)⟩
    have hr' := hr _ (List.mem_of_getElem? hx)
    dsimp only at hr'
    refine XC.skip <| XQ.seq <| XC.seq <| XC.block <| XC.seq <| XC.region ?_
    first | refine oR rfl rfl rfl (RO.fieldOwn fo_39_1 rfl) ?_ | refine oR rfl rfl rfl (RO.fieldPel fo_39_1 rfl) ?_
    first | refine oR rfl rfl rfl (RO.loadOwn ag_37 rfl rfl rfl) ?_ | refine oR rfl rfl rfl (RO.loadPel ag_37 rfl rfl) ?_
    refine oM rfl rfl ?_
    refine XL.op rfl (XO.of_ro rfl (lb rfl) (RO.index sl_37 rfl (by repeat' constructor) rfl (show ((m' + 1 : Nat) : Int) - 1 = (m' : Int) by omega) (map_get hx))) ?_
    first | refine oR rfl rfl rfl (RO.loadOwnAgg ag_59 rfl rfl rfl rfl) ?_ | refine oR rfl rfl rfl (RO.loadPelAgg ag_59 rfl rfl rfl) ?_
    refine XL.op rfl (XO.alloc z_59 rfl (lb rfl)) <| XL.op rfl (XO.store ag_59 rfl rfl rfl rfl (lb rfl) rfl) <| XL.nil <| XQ.seq <| XC.seq <| XC.region ?_
    first | refine oR rfl rfl rfl (RO.fieldOwn fo_59_0 rfl) ?_ | refine oR rfl rfl rfl (RO.fieldPel fo_59_0 rfl) ?_
    first | refine oR rfl rfl rfl (RO.loadOwn ag_3 rfl rfl rfl) ?_ | refine oR rfl rfl rfl (RO.loadPel ag_3 rfl rfl) ?_
    refine oR rfl rfl rfl (RO.cmp rfl rfl rfl) <| XL.nil <| XQ.seq ?_
    refine XC.cond rfl (fun c2 => ?_) (fun c2 => ?_)
    ·
      replace c2 := prs c2
      refine XC.seq ?_
      refine XC.draw mixed (by kernel_rfl) ?_
      first | refine XS.op rfl rfl (lb rfl) (RO.fieldOwn fo_59_0 rfl) ?_ | refine XS.op rfl rfl (lb rfl) (RO.fieldPel fo_59_0 rfl) ?_
      first | refine XS.op rfl rfl (lb rfl) (RO.loadOwn ag_3 rfl rfl rfl) ?_ | refine XS.op rfl rfl (lb rfl) (RO.loadPel ag_3 rfl rfl) ?_
      refine XS.op rfl rfl (lb rfl) (RO.arith rfl rfl rfl (by omega) (by omega)) ?_
      first | refine XS.op rfl rfl (lb rfl) (RO.fieldOwn fo_59_1 rfl) ?_ | refine XS.op rfl rfl (lb rfl) (RO.fieldPel fo_59_1 rfl) ?_
      first | refine XS.op rfl rfl (lb rfl) (RO.loadOwn ag_3 rfl rfl rfl) ?_ | refine XS.op rfl rfl (lb rfl) (RO.loadPel ag_3 rfl rfl) ?_
      refine XS.op rfl rfl (lb rfl) (RO.assign rfl) <| XS.op rfl rfl (lb rfl) (RO.assign rfl) <| XS.nil <| XQ.seq <| XC.ret ?_
      have hp : pivL L.vs = (-1 - x1, x2) := by rw [he, piv_snoc hx, if_pos (by dsimp only; omega)]
      refine XQ.ret2 (fun _ _ h => h) rfl (RA.tmp rfl) ?s0 (RA.tmp rfl) ?s1 rfl
      case s0 => (rw [hp]); exact (by repeat' constructor)
      case s1 => (rw [hp]); exact (by repeat' constructor)
    ·
      replace c2 := prs c2
      refine XC.skip <| XQ.inBlock <| XQ.seq <| XC.region <| oM rfl rfl ?_
      refine XL.op rfl (XO.of_ro rfl (lb rfl) (RO.arith rfl rfl rfl (by omega) (by omega))) ?_
      refine oA rfl rfl <| XL.nil ?_
      refine XQ.next m' ?le ⟨by omega, ?_⟩ (by omega)
      case le =>
        try dsimp only
        rw [show ((m' : Int) - 1) = ((m' + 1 : Nat) : Int) - 1 - 1 by omega]
        exact ⟨(by repeat' constructor), (by repeat' constructor), (by repeat (first | exact trivial | refine ⟨(by intro T h; first | (cases h; rfl) | cases h), ?_⟩)), (lb rfl), Nat.zero_le _, rfl, rfl, (by simp [tmBelow, TV.below, AV.below, CA.below]), (by simp [hpBelow, HB.below, CA.below]), (by simp [tkBelow]), (by simp)⟩
      rw [he, piv_snoc hx, if_neg (by dsimp only; omega)]
  ·
    replace c1 := prs c1
    have hm0 : m = 0 := by omega
    subst hm0
    refine XC.exit <| XQ.thenE <| XQ.thenE <| XQ.blockX <| XQ.seq <| XC.seq <| XC.region <| oA rfl rfl <| oA rfl rfl <| XL.nil <| XQ.seq <| XC.ret ?_
    have hp : pivL L.vs = (-1, 0) := by rw [he]; rfl
    refine XQ.ret2 (fun _ _ h => h) rfl (RA.tmp rfl) ?s0 (RA.tmp rfl) ?s1 rfl
    case s0 => (rw [hp]); exact (by repeat' constructor)
    case s1 => (rw [hp]); exact (by repeat' constructor)

set_option maxRecDepth 100000 in
theorem lowered_fun (L : Lvl) (k : Int) (hc : -1000000 ≤ L.c ∧ L.c ≤ 1000000) (hk : -1000000 ≤ k ∧ k ≤ 1000000) (hx : ∀ x ∈ L.vs, -1000000 ≤ x.2 ∧ x.2 ≤ 1000000) : Fun Try.prog 56 [lvlA L, .one (.d (.v (.int .i64 k)))] (.v (lvlA (lowL L k))) := by
  refine Fun.of_body 9 30 Try.func56 rfl en_56 rfl (lb rfl) (fun S w => ?_)
  simp only [entry]
  refine XC.seq <| XC.region <| XL.op rfl (XO.box rfl (lb rfl)) <| XL.op rfl (XO.alloc z_39 rfl (lb rfl)) <| XL.nil <| XQ.seq <| XC.seq <| XC.seq <| XC.region ?_
  first | refine oR rfl rfl rfl (RO.fieldOwn fo_39_1 rfl) ?_ | refine oR rfl rfl rfl (RO.fieldPel fo_39_1 rfl) ?_
  first | refine oR rfl rfl rfl (RO.loadOwn ag_37 rfl rfl rfl) ?_ | refine oR rfl rfl rfl (RO.loadPel ag_37 rfl rfl) ?_
  refine XL.op rfl (XO.of_ro rfl (lb rfl) (RO.len sl_37 rfl (by repeat' constructor))) ?_
  refine oR rfl rfl rfl (RO.cmp rfl rfl rfl) <| XL.nil <| XQ.seq ?_
  refine XC.cond rfl (fun c1 => ?_) (fun c1 => ?_)
  ·
    replace c1 := prs c1
    have hv : L.vs = [] := by simp only [List.length_map] at c1; exact List.eq_nil_of_length_eq_zero (by omega)
    refine XC.seq <| XC.region ?_
    first | refine oR rfl rfl rfl (RO.fieldOwn fo_39_0 rfl) ?_ | refine oR rfl rfl rfl (RO.fieldPel fo_39_0 rfl) ?_
    first | refine oR rfl rfl rfl (RO.loadOwn ag_3 rfl rfl rfl) ?_ | refine oR rfl rfl rfl (RO.loadPel ag_3 rfl rfl) ?_
    refine oM rfl rfl ?_
    refine XL.op rfl (XO.of_ro rfl (lb rfl) (RO.arith rfl rfl rfl (by omega) (by omega))) ?_
    refine oR rfl rfl rfl (RO.max2 rfl rfl) <| oR rfl rfl rfl (RO.build1 bd_39 rfl rfl rfl) <| XL.op rfl (XO.store ag_39 rfl rfl rfl rfl (lb rfl) rfl) <| XL.nil <| XQ.seq <| XC.ret ?_
    refine XQ.ret1 (fun _ _ h => h) rfl (RA.cellAgg ag_39 rfl rfl rfl rfl) ?s0 rfl
    case s0 => (rw [lowL_nil hv]); exact (by repeat' constructor)
  ·
    replace c1 := prs c1
    obtain ⟨x, h0⟩ : ∃ x, L.vs[0]? = some x := ⟨_, List.getElem?_eq_getElem (by simp only [List.length_map] at c1; omega)⟩
    have hx2 := hx x (List.mem_of_getElem? h0)
    refine XC.skip <| XQ.seq <| XC.seq <| XC.region ?_
    first | refine oR rfl rfl rfl (RO.fieldOwn fo_39_1 rfl) ?_ | refine oR rfl rfl rfl (RO.fieldPel fo_39_1 rfl) ?_
    first | refine oR rfl rfl rfl (RO.loadOwn ag_37 rfl rfl rfl) ?_ | refine oR rfl rfl rfl (RO.loadPel ag_37 rfl rfl) ?_
    refine XL.op rfl (XO.of_ro rfl (lb rfl) (RO.index sl_37 rfl (by repeat' constructor) rfl rfl (map_get h0))) ?_
    first | refine oR rfl rfl rfl (RO.loadOwnAgg ag_59 rfl rfl rfl rfl) ?_ | refine oR rfl rfl rfl (RO.loadPelAgg ag_59 rfl rfl rfl) ?_
    refine XL.op rfl (XO.alloc z_59 rfl (lb rfl)) <| XL.op rfl (XO.store ag_59 rfl rfl rfl rfl (lb rfl) rfl) <| XL.nil <| XQ.seq <| XC.seq <| XC.region ?_
    first | refine oR rfl rfl rfl (RO.fieldOwn fo_59_0 rfl) ?_ | refine oR rfl rfl rfl (RO.fieldPel fo_59_0 rfl) ?_
    first | refine oR rfl rfl rfl (RO.loadOwn ag_3 rfl rfl rfl) ?_ | refine oR rfl rfl rfl (RO.loadPel ag_3 rfl rfl) ?_
    first | refine oR rfl rfl rfl (RO.fieldOwn fo_59_1 rfl) ?_ | refine oR rfl rfl rfl (RO.fieldPel fo_59_1 rfl) ?_
    first | refine oR rfl rfl rfl (RO.loadOwn ag_3 rfl rfl rfl) ?_ | refine oR rfl rfl rfl (RO.loadPel ag_3 rfl rfl) ?_
    refine oM rfl rfl ?_
    refine XL.op rfl (XO.of_ro rfl (lb rfl) (RO.arith rfl rfl rfl (by omega) (by omega))) ?_
    refine oR rfl rfl rfl (RO.max2 rfl rfl) <| oR rfl rfl rfl (RO.build2 bd_59 rfl rfl rfl rfl) ?_
    refine XL.op rfl (XO.lit1 (c1 := [_, _]) sl_37 z_59 rfl rfl (lb rfl) (lb rfl) rfl rfl (by repeat' constructor) rfl (lb rfl)) ?_
    refine oR rfl rfl rfl (RO.build1 bd_39 rfl rfl rfl) <| XL.op rfl (XO.store ag_39 rfl rfl rfl rfl (lb rfl) rfl) <| XL.nil <| XQ.seq <| XC.ret ?_
    refine XQ.ret1 (fun _ _ h => h) rfl (RA.cellAgg ag_39 rfl rfl rfl rfl) ?s0 rfl
    case s0 => (rw [lowL_cons h0]); exact (by repeat' constructor)

set_option maxRecDepth 100000 in
theorem less_fun (L : Lvl) (k : Int) (hc : -1000000 ≤ L.c ∧ L.c ≤ 1000000) (hk : -1000000 ≤ k ∧ k ≤ 1000000) (hx : ∀ x ∈ L.vs, -1000000 ≤ x.2 ∧ x.2 ≤ 1000000) : Fun Try.prog 58 [lvlA L, .one (.d (.v (.int .i64 k)))] (.v (lvlA (lowL L k))) := by
  refine Fun.of_body 9 30 Try.func58 rfl en_58 rfl (lb rfl) (fun S w => ?_)
  simp only [entry]
  refine XC.seq <| XC.region <| XL.op rfl (XO.box rfl (lb rfl)) <| XL.op rfl (XO.alloc z_39 rfl (lb rfl)) <| XL.nil <| XQ.seq <| XC.seq <| XC.seq <| XC.region ?_
  first | refine oR rfl rfl rfl (RO.fieldOwn fo_39_1 rfl) ?_ | refine oR rfl rfl rfl (RO.fieldPel fo_39_1 rfl) ?_
  first | refine oR rfl rfl rfl (RO.loadOwn ag_37 rfl rfl rfl) ?_ | refine oR rfl rfl rfl (RO.loadPel ag_37 rfl rfl) ?_
  refine XL.op rfl (XO.of_ro rfl (lb rfl) (RO.len sl_37 rfl (by repeat' constructor))) ?_
  refine oR rfl rfl rfl (RO.cmp rfl rfl rfl) <| XL.nil <| XQ.seq ?_
  refine XC.cond rfl (fun c1 => ?_) (fun c1 => ?_)
  ·
    replace c1 := prs c1
    have hv : L.vs = [] := by simp only [List.length_map] at c1; exact List.eq_nil_of_length_eq_zero (by omega)
    refine XC.seq <| XC.region ?_
    first | refine oR rfl rfl rfl (RO.fieldOwn fo_39_0 rfl) ?_ | refine oR rfl rfl rfl (RO.fieldPel fo_39_0 rfl) ?_
    first | refine oR rfl rfl rfl (RO.loadOwn ag_3 rfl rfl rfl) ?_ | refine oR rfl rfl rfl (RO.loadPel ag_3 rfl rfl) ?_
    refine oM rfl rfl ?_
    refine XL.op rfl (XO.of_ro rfl (lb rfl) (RO.arith rfl rfl rfl (by omega) (by omega))) ?_
    refine oR rfl rfl rfl (RO.max2 rfl rfl) <| oR rfl rfl rfl (RO.build1 bd_39 rfl rfl rfl) <| XL.op rfl (XO.store ag_39 rfl rfl rfl rfl (lb rfl) rfl) <| XL.nil <| XQ.seq <| XC.ret ?_
    refine XQ.ret1 (fun _ _ h => h) rfl (RA.cellAgg ag_39 rfl rfl rfl rfl) ?s0 rfl
    case s0 => (rw [lowL_nil hv, Int.max_comm]); exact (by repeat' constructor)
  ·
    replace c1 := prs c1
    obtain ⟨x, h0⟩ : ∃ x, L.vs[0]? = some x := ⟨_, List.getElem?_eq_getElem (by simp only [List.length_map] at c1; omega)⟩
    have hx2 := hx x (List.mem_of_getElem? h0)
    refine XC.skip <| XQ.seq <| XC.seq <| XC.region ?_
    first | refine oR rfl rfl rfl (RO.fieldOwn fo_39_1 rfl) ?_ | refine oR rfl rfl rfl (RO.fieldPel fo_39_1 rfl) ?_
    first | refine oR rfl rfl rfl (RO.loadOwn ag_37 rfl rfl rfl) ?_ | refine oR rfl rfl rfl (RO.loadPel ag_37 rfl rfl) ?_
    refine XL.op rfl (XO.of_ro rfl (lb rfl) (RO.index sl_37 rfl (by repeat' constructor) rfl rfl (map_get h0))) ?_
    first | refine oR rfl rfl rfl (RO.loadOwnAgg ag_59 rfl rfl rfl rfl) ?_ | refine oR rfl rfl rfl (RO.loadPelAgg ag_59 rfl rfl rfl) ?_
    refine XL.op rfl (XO.alloc z_59 rfl (lb rfl)) <| XL.op rfl (XO.store ag_59 rfl rfl rfl rfl (lb rfl) rfl) <| XL.nil <| XQ.seq <| XC.seq <| XC.region ?_
    first | refine oR rfl rfl rfl (RO.fieldOwn fo_59_0 rfl) ?_ | refine oR rfl rfl rfl (RO.fieldPel fo_59_0 rfl) ?_
    first | refine oR rfl rfl rfl (RO.loadOwn ag_3 rfl rfl rfl) ?_ | refine oR rfl rfl rfl (RO.loadPel ag_3 rfl rfl) ?_
    first | refine oR rfl rfl rfl (RO.fieldOwn fo_59_1 rfl) ?_ | refine oR rfl rfl rfl (RO.fieldPel fo_59_1 rfl) ?_
    first | refine oR rfl rfl rfl (RO.loadOwn ag_3 rfl rfl rfl) ?_ | refine oR rfl rfl rfl (RO.loadPel ag_3 rfl rfl) ?_
    refine oM rfl rfl ?_
    refine XL.op rfl (XO.of_ro rfl (lb rfl) (RO.arith rfl rfl rfl (by omega) (by omega))) ?_
    refine oR rfl rfl rfl (RO.max2 rfl rfl) <| oR rfl rfl rfl (RO.build2 bd_59 rfl rfl rfl rfl) ?_
    refine XL.op rfl (XO.lit1 (c1 := [_, _]) sl_37 z_59 rfl rfl (lb rfl) (lb rfl) rfl rfl (by repeat' constructor) rfl (lb rfl)) ?_
    refine oR rfl rfl rfl (RO.build1 bd_39 rfl rfl rfl) <| XL.op rfl (XO.store ag_39 rfl rfl rfl rfl (lb rfl) rfl) <| XL.nil <| XQ.seq <| XC.ret ?_
    refine XQ.ret1 (fun _ _ h => h) rfl (RA.cellAgg ag_39 rfl rfl rfl rfl) ?s0 rfl
    case s0 => (rw [lowL_cons h0, Int.max_comm]); exact (by repeat' constructor)

set_option maxRecDepth 100000 in
theorem point_fun (L : Lvl) (hx : ∀ x ∈ L.vs, -65536 ≤ x.1 ∧ x.1 ≤ 7) : Fun Try.prog 63 [lvlA L] (resII (pointL L)) := by
  refine Fun.of_body 9 21 Try.func63 rfl en_63 rfl (lb rfl) (fun S w => ?_)
  simp only [entry]
  refine XC.seq <| XC.region <| XL.op rfl (XO.box rfl (lb rfl)) <| oA rfl rfl <| oA rfl rfl <| XL.nil <| XQ.seq <| XC.seq <| XC.seq <| XC.region ?_
  first | refine oR rfl rfl rfl (RO.fieldOwn fo_39_1 rfl) ?_ | refine oR rfl rfl rfl (RO.fieldPel fo_39_1 rfl) ?_
  first | refine oR rfl rfl rfl (RO.loadOwn ag_37 rfl rfl rfl) ?_ | refine oR rfl rfl rfl (RO.loadPel ag_37 rfl rfl) ?_
  refine XL.op rfl (XO.of_ro rfl (lb rfl) (RO.len sl_37 rfl (by repeat' constructor))) ?_
  refine oR rfl rfl rfl (RO.cmp rfl rfl rfl) <| XL.nil <| XQ.seq ?_
  refine XC.cond rfl (fun c1 => ?_) (fun c1 => ?_)
  ·
    replace c1 := prs c1
    have hv : L.vs = [] := by simp only [List.length_map] at c1; exact List.eq_nil_of_length_eq_zero (by omega)
    refine XC.seq ?_
    refine XC.draw mixed (by kernel_rfl) ?_
    first | refine XS.op rfl rfl (lb rfl) (RO.fieldOwn fo_39_0 rfl) ?_ | refine XS.op rfl rfl (lb rfl) (RO.fieldPel fo_39_0 rfl) ?_
    first | refine XS.op rfl rfl (lb rfl) (RO.loadOwn ag_3 rfl rfl rfl) ?_ | refine XS.op rfl rfl (lb rfl) (RO.loadPel ag_3 rfl rfl) ?_
    refine XS.op rfl rfl (lb rfl) (RO.assign rfl) <| XS.op rfl rfl (lb rfl) (RO.assign rfl) <| XS.nil <| XQ.seq <| XC.ret ?_
    refine XQ.ret2 (fun _ _ h => h) rfl (RA.tmp rfl) ?s0 (RA.tmp rfl) ?s1 rfl
    case s0 => (rw [pointL_nil hv]); exact (by repeat' constructor)
    case s1 => (rw [pointL_nil hv]); exact (by repeat' constructor)
  ·
    replace c1 := prs c1
    obtain ⟨x, h0⟩ : ∃ x, L.vs[0]? = some x := ⟨_, List.getElem?_eq_getElem (by simp only [List.length_map] at c1; omega)⟩
    have hx2 := hx x (List.mem_of_getElem? h0)
    refine XC.skip <| XQ.seq <| XC.seq ?_
    refine XC.draw mixed (by kernel_rfl) ?_
    first | refine XS.op rfl rfl (lb rfl) (RO.fieldOwn fo_39_1 rfl) ?_ | refine XS.op rfl rfl (lb rfl) (RO.fieldPel fo_39_1 rfl) ?_
    first | refine XS.op rfl rfl (lb rfl) (RO.loadOwn ag_37 rfl rfl rfl) ?_ | refine XS.op rfl rfl (lb rfl) (RO.loadPel ag_37 rfl rfl) ?_
    refine XS.op rfl rfl (lb rfl) (RO.index sl_37 rfl (by repeat' constructor) rfl rfl (map_get h0)) ?_
    first | refine XS.op rfl rfl (lb rfl) (RO.fieldOwn fo_59_0 rfl) ?_ | refine XS.op rfl rfl (lb rfl) (RO.fieldPel fo_59_0 rfl) ?_
    first | refine XS.op rfl rfl (lb rfl) (RO.loadOwn ag_3 rfl rfl rfl) ?_ | refine XS.op rfl rfl (lb rfl) (RO.loadPel ag_3 rfl rfl) ?_
    refine XS.op rfl rfl (lb rfl) (RO.arith rfl rfl rfl (by omega) (by omega)) ?_
    first | refine XS.op rfl rfl (lb rfl) (RO.fieldOwn fo_39_1 rfl) ?_ | refine XS.op rfl rfl (lb rfl) (RO.fieldPel fo_39_1 rfl) ?_
    first | refine XS.op rfl rfl (lb rfl) (RO.loadOwn ag_37 rfl rfl rfl) ?_ | refine XS.op rfl rfl (lb rfl) (RO.loadPel ag_37 rfl rfl) ?_
    refine XS.op rfl rfl (lb rfl) (RO.index sl_37 rfl (by repeat' constructor) rfl rfl (map_get h0)) ?_
    first | refine XS.op rfl rfl (lb rfl) (RO.fieldOwn fo_59_1 rfl) ?_ | refine XS.op rfl rfl (lb rfl) (RO.fieldPel fo_59_1 rfl) ?_
    first | refine XS.op rfl rfl (lb rfl) (RO.loadOwn ag_3 rfl rfl rfl) ?_ | refine XS.op rfl rfl (lb rfl) (RO.loadPel ag_3 rfl rfl) ?_
    refine XS.op rfl rfl (lb rfl) (RO.assign rfl) <| XS.op rfl rfl (lb rfl) (RO.assign rfl) <| XS.nil <| XQ.seq <| XC.ret ?_
    refine XQ.ret2 (fun _ _ h => h) rfl (RA.tmp rfl) ?s0 (RA.tmp rfl) ?s1 rfl
    case s0 => (rw [pointL_cons h0]); exact (by repeat' constructor)
    case s1 => (rw [pointL_cons h0]); exact (by repeat' constructor)

set_option maxRecDepth 100000 in
theorem node_fun (L : Lvl) (hx : ∀ x ∈ L.vs, -65536 ≤ x.1 ∧ x.1 ≤ 7) : Fun Try.prog 64 [lvlA L] (resII (pointL L)) := by
  refine Fun.of_body 9 21 Try.func64 rfl en_64 rfl (lb rfl) (fun S w => ?_)
  simp only [entry]
  refine XC.seq <| XC.region <| XL.op rfl (XO.box rfl (lb rfl)) <| oA rfl rfl <| oA rfl rfl <| XL.nil <| XQ.seq <| XC.seq <| XC.seq <| XC.region ?_
  first | refine oR rfl rfl rfl (RO.fieldOwn fo_39_1 rfl) ?_ | refine oR rfl rfl rfl (RO.fieldPel fo_39_1 rfl) ?_
  first | refine oR rfl rfl rfl (RO.loadOwn ag_37 rfl rfl rfl) ?_ | refine oR rfl rfl rfl (RO.loadPel ag_37 rfl rfl) ?_
  refine XL.op rfl (XO.of_ro rfl (lb rfl) (RO.len sl_37 rfl (by repeat' constructor))) ?_
  refine oR rfl rfl rfl (RO.cmp rfl rfl rfl) <| XL.nil <| XQ.seq ?_
  refine XC.cond rfl (fun c1 => ?_) (fun c1 => ?_)
  ·
    replace c1 := prs c1
    have hv : L.vs = [] := by simp only [List.length_map] at c1; exact List.eq_nil_of_length_eq_zero (by omega)
    refine XC.seq ?_
    refine XC.draw mixed (by kernel_rfl) ?_
    first | refine XS.op rfl rfl (lb rfl) (RO.fieldOwn fo_39_0 rfl) ?_ | refine XS.op rfl rfl (lb rfl) (RO.fieldPel fo_39_0 rfl) ?_
    first | refine XS.op rfl rfl (lb rfl) (RO.loadOwn ag_3 rfl rfl rfl) ?_ | refine XS.op rfl rfl (lb rfl) (RO.loadPel ag_3 rfl rfl) ?_
    refine XS.op rfl rfl (lb rfl) (RO.assign rfl) <| XS.op rfl rfl (lb rfl) (RO.assign rfl) <| XS.nil <| XQ.seq <| XC.ret ?_
    refine XQ.ret2 (fun _ _ h => h) rfl (RA.tmp rfl) ?s0 (RA.tmp rfl) ?s1 rfl
    case s0 => (rw [pointL_nil hv]); exact (by repeat' constructor)
    case s1 => (rw [pointL_nil hv]); exact (by repeat' constructor)
  ·
    replace c1 := prs c1
    obtain ⟨x, h0⟩ : ∃ x, L.vs[0]? = some x := ⟨_, List.getElem?_eq_getElem (by simp only [List.length_map] at c1; omega)⟩
    have hx2 := hx x (List.mem_of_getElem? h0)
    refine XC.skip <| XQ.seq <| XC.seq ?_
    refine XC.draw mixed (by kernel_rfl) ?_
    first | refine XS.op rfl rfl (lb rfl) (RO.fieldOwn fo_39_1 rfl) ?_ | refine XS.op rfl rfl (lb rfl) (RO.fieldPel fo_39_1 rfl) ?_
    first | refine XS.op rfl rfl (lb rfl) (RO.loadOwn ag_37 rfl rfl rfl) ?_ | refine XS.op rfl rfl (lb rfl) (RO.loadPel ag_37 rfl rfl) ?_
    refine XS.op rfl rfl (lb rfl) (RO.index sl_37 rfl (by repeat' constructor) rfl rfl (map_get h0)) ?_
    first | refine XS.op rfl rfl (lb rfl) (RO.fieldOwn fo_59_0 rfl) ?_ | refine XS.op rfl rfl (lb rfl) (RO.fieldPel fo_59_0 rfl) ?_
    first | refine XS.op rfl rfl (lb rfl) (RO.loadOwn ag_3 rfl rfl rfl) ?_ | refine XS.op rfl rfl (lb rfl) (RO.loadPel ag_3 rfl rfl) ?_
    refine XS.op rfl rfl (lb rfl) (RO.arith rfl rfl rfl (by omega) (by omega)) ?_
    first | refine XS.op rfl rfl (lb rfl) (RO.fieldOwn fo_39_1 rfl) ?_ | refine XS.op rfl rfl (lb rfl) (RO.fieldPel fo_39_1 rfl) ?_
    first | refine XS.op rfl rfl (lb rfl) (RO.loadOwn ag_37 rfl rfl rfl) ?_ | refine XS.op rfl rfl (lb rfl) (RO.loadPel ag_37 rfl rfl) ?_
    refine XS.op rfl rfl (lb rfl) (RO.index sl_37 rfl (by repeat' constructor) rfl rfl (map_get h0)) ?_
    first | refine XS.op rfl rfl (lb rfl) (RO.fieldOwn fo_59_1 rfl) ?_ | refine XS.op rfl rfl (lb rfl) (RO.fieldPel fo_59_1 rfl) ?_
    first | refine XS.op rfl rfl (lb rfl) (RO.loadOwn ag_3 rfl rfl rfl) ?_ | refine XS.op rfl rfl (lb rfl) (RO.loadPel ag_3 rfl rfl) ?_
    refine XS.op rfl rfl (lb rfl) (RO.assign rfl) <| XS.op rfl rfl (lb rfl) (RO.assign rfl) <| XS.nil <| XQ.seq <| XC.ret ?_
    refine XQ.ret2 (fun _ _ h => h) rfl (RA.tmp rfl) ?s0 (RA.tmp rfl) ?s1 rfl
    case s0 => (rw [pointL_cons h0]); exact (by repeat' constructor)
    case s1 => (rw [pointL_cons h0]); exact (by repeat' constructor)

set_option maxRecDepth 100000 in
theorem number_fun (n : Int) : Fun Try.prog 85 [.one (.d (.v (.int .i64 n)))] (.v (lvlA ⟨n, []⟩)) := by
  refine Fun.of_body 9 5 Try.func85 rfl en_85 rfl (lb rfl) (fun S w => ?_)
  simp only [entry]
  refine XC.seq <| XC.region <| XL.op rfl (XO.alloc z_39 rfl (lb rfl)) <| XL.nil <| XQ.seq <| XC.seq <| XC.region <| oM rfl rfl <| oR rfl rfl rfl (RO.build1 bd_39 rfl rfl rfl) <| XL.op rfl (XO.store ag_39 rfl rfl rfl rfl (lb rfl) rfl) <| XL.nil <| XQ.seq <| XC.ret ?_
  refine XQ.ret1 (fun _ _ h => h) rfl (RA.cellAgg ag_39 rfl rfl rfl rfl) ?s0 rfl
  case s0 => exact (by repeat' constructor)

set_option maxRecDepth 100000 in
theorem level_fun (i p : Int) : Fun Try.prog 27 [.one (.d (.v (.int .i64 i))), .one (.d (.v (.int .i64 p)))] (.v (lvlA ⟨0, [(i, p)]⟩)) := by
  refine Fun.of_body 9 10 Try.func27 rfl en_27 rfl (lb rfl) (fun S w => ?_)
  simp only [entry]
  refine XC.seq <| XC.region <| XL.op rfl (XO.alloc z_39 rfl (lb rfl)) <| XL.nil <| XQ.seq <| XC.seq <| XC.region <| oM rfl rfl <| oM rfl rfl <| oR rfl rfl rfl (RO.build2 bd_59 rfl rfl rfl rfl) ?_
  refine XL.op rfl (XO.lit1 (c1 := [_, _]) sl_37 z_59 rfl rfl (lb rfl) (lb rfl) rfl rfl (by repeat' constructor) rfl (lb rfl)) ?_
  refine oR rfl rfl rfl (RO.build1 bd_39 rfl rfl rfl) <| XL.op rfl (XO.store ag_39 rfl rfl rfl rfl (lb rfl) rfl) <| XL.nil <| XQ.seq <| XC.ret ?_
  refine XQ.ret1 (fun _ _ h => h) rfl (RA.cellAgg ag_39 rfl rfl rfl rfl) ?s0 rfl
  case s0 => exact (by repeat' constructor)
end Go.Proofs.Ytkimijmiphkddaa
