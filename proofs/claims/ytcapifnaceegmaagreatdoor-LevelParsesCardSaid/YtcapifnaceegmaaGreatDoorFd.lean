/- The reference Plus, join, Max, replace, Assign. -/
import Derived.Test.YtcapifnaceegmaaGreatDoorFc
import Derived.Test.YtcapifnaceegmaaGreatDoorAny
namespace Go.Proofs.YtcapifnaceegmaaGreatDoor
open Go.RowKit
set_option linter.unusedSimpArgs false
set_option linter.unusedVariables false

set_option maxRecDepth 100000 in
set_option maxHeartbeats 2000000 in
theorem plusR_fun (L : Lvl) (n : Int) (hlen : L.vs.length ≤ 100000) : Fun Tryz.prog 23 [lvlA L, .one (.d (.v (.int .i64 n)))] (resLE (plusL L n)) := by
  refine Fun.of_body 9 75 Tryz.func23 rfl en_23 rfl (lb rfl) (fun S w => ?_)
  simp only [entry]
  refine XC.seq <| XC.region <| XL.op rfl (XO.box rfl (lb rfl)) <| XL.op rfl (XO.alloc z_24 rfl (lb rfl)) <| oA rfl rfl <| XL.nil <| XQ.seq <| XC.seq <| XC.seq <| XC.region ?_
  first | refine oR rfl rfl rfl (RO.loadOwnAgg ag_24 rfl rfl rfl rfl) ?_ | refine oR rfl rfl rfl (RO.loadPelAgg ag_24 rfl rfl rfl) ?_
  refine XL.op rfl (XO.call1 (validR_fun L hlen) rfl (by repeat' constructor) (lb rfl)) ?_
  refine oR rfl rfl rfl (RO.not rfl) <| XL.nil <| XQ.seq ?_
  refine XC.cond rfl (fun c1 => ?_) (fun c1 => ?_)
  ·
    replace c1 := prs c1
    have hv := c1
    refine XC.seq <| XC.region <| XL.op rfl (XO.of_ro rfl (lb rfl) (RO.build0 bd_24 rfl )) <| XL.op rfl (XO.store ag_24 rfl rfl rfl rfl (lb rfl) rfl) <| oA rfl rfl <| XL.nil <| XQ.seq <| XC.ret ?_
    refine XQ.ret2 (fun _ _ h => h) rfl (RA.cellAgg ag_24 rfl rfl rfl rfl) ?s0 (RA.tmp rfl) ?s1 rfl
    case s0 => (rw [plusL_inv hv]); exact (by repeat' constructor)
    case s1 => (rw [plusL_inv hv]); exact (by repeat' constructor)
  ·
    replace c1 := prs c1
    have hv := c1
    have hvc := valid_c hv
    refine XC.skip <| XQ.seq <| XC.seq <| XC.seq <| XC.region <| oM rfl rfl <| oR rfl rfl rfl (RO.cmp rfl rfl rfl) <| XL.nil <| XQ.seq ?_
    refine XC.cond rfl (fun c2 => ?_) (fun c2 => ?_)
    ·
      replace c2 := prs c2
      refine XC.seq <| XC.region <| XL.op rfl (XO.of_ro rfl (lb rfl) (RO.build0 bd_24 rfl )) <| XL.op rfl (XO.store ag_24 rfl rfl rfl rfl (lb rfl) rfl) <| oA rfl rfl <| XL.nil <| XQ.seq <| XC.ret ?_
      refine XQ.ret2 (fun _ _ h => h) rfl (RA.cellAgg ag_24 rfl rfl rfl rfl) ?s0 (RA.tmp rfl) ?s1 rfl
      case s0 => (rw [plusL_neg hv (by omega)]); exact (by repeat' constructor)
      case s1 => (rw [plusL_neg hv (by omega)]); exact (by repeat' constructor)
    ·
      replace c2 := prs c2
      refine XC.skip <| XQ.seq <| XC.seq <| XC.seq <| XC.region <| oM rfl rfl <| oR rfl rfl rfl (RO.cmp rfl rfl rfl) <| XL.nil <| XQ.seq ?_
      refine XC.cond rfl (fun c3 => ?_) (fun c3 => ?_)
      ·
        replace c3 := prs c3
        refine XC.seq <| XC.region <| XL.op rfl (XO.of_ro rfl (lb rfl) (RO.build0 bd_24 rfl )) <| XL.op rfl (XO.store ag_24 rfl rfl rfl rfl (lb rfl) rfl) <| oA rfl rfl <| XL.nil <| XQ.seq <| XC.ret ?_
        refine XQ.ret2 (fun _ _ h => h) rfl (RA.cellAgg ag_24 rfl rfl rfl rfl) ?s0 (RA.tmp rfl) ?s1 rfl
        case s0 => (rw [plusL_big hv (by omega) (by omega)]); exact (by repeat' constructor)
        case s1 => (rw [plusL_big hv (by omega) (by omega)]); exact (by repeat' constructor)
      ·
        replace c3 := prs c3
        refine XC.skip <| XQ.seq <| XC.seq <| XC.region <| XL.op rfl (XO.of_ro rfl (lb rfl) (RO.build0 bd_24 rfl )) <| XL.op rfl (XO.alloc z_24 rfl (lb rfl)) <| XL.op rfl (XO.store ag_24 rfl rfl rfl rfl (lb rfl) rfl) <| XL.nil <| XQ.seq <| XC.seq <| XC.seq <| XC.region ?_
        first | refine oR rfl rfl rfl (RO.fieldOwn fo_24_0 rfl) ?_ | refine oR rfl rfl rfl (RO.fieldPel fo_24_0 rfl) ?_
        first | refine oR rfl rfl rfl (RO.loadOwn ag_3 rfl rfl rfl) ?_ | refine oR rfl rfl rfl (RO.loadPel ag_3 rfl rfl) ?_
        refine oR rfl rfl rfl (RO.cmp rfl rfl rfl) <| oM rfl rfl ?_
        refine XL.case (d := 22) rfl (fun c4 => ?_) (fun c4 => ?_)
        ·
          replace c4 := prs c4
          have hp1 : plusC L n = L.c + n := plusC_yes (.inl (by omega))
          refine XL.offB rfl rfl rfl rfl <| XL.offB rfl rfl rfl rfl <| XL.offB rfl rfl rfl rfl <| XL.offB rfl rfl rfl rfl <| oR rfl rfl rfl (RO.pickT rfl rfl) <| XL.nil <| XQ.seq ?_
          refine XC.cond rfl (fun _ => ?_) (fun h => nomatch h)
          refine XC.region ?_
          first | refine oR rfl rfl rfl (RO.fieldOwn fo_24_0 rfl) ?_ | refine oR rfl rfl rfl (RO.fieldPel fo_24_0 rfl) ?_
          first | refine oR rfl rfl rfl (RO.loadOwn ag_3 rfl rfl rfl) ?_ | refine oR rfl rfl rfl (RO.loadPel ag_3 rfl rfl) ?_
          refine oM rfl rfl ?_
          refine XL.op rfl (XO.of_ro rfl (lb rfl) (RO.arith rfl rfl rfl (by omega) (by omega))) ?_
          first | refine oR rfl rfl rfl (RO.fieldOwn fo_24_0 rfl) ?_ | refine oR rfl rfl rfl (RO.fieldPel fo_24_0 rfl) ?_
          refine XL.op rfl (XO.store ag_3 rfl rfl rfl rfl (lb rfl) rfl) <| XL.nil <| XQ.seq <| XC.seq <| XC.seq <| XC.region ?_
          first | refine oR rfl rfl rfl (RO.fieldOwn fo_24_0 rfl) ?_ | refine oR rfl rfl rfl (RO.fieldPel fo_24_0 rfl) ?_
          first | refine oR rfl rfl rfl (RO.loadOwn ag_3 rfl rfl rfl) ?_ | refine oR rfl rfl rfl (RO.loadPel ag_3 rfl rfl) ?_
          refine oR rfl rfl rfl (RO.cmp rfl rfl rfl) <| XL.nil <| XQ.seq ?_
          refine XC.cond rfl (fun c5 => ?_) (fun c5 => ?_)
          ·
            replace c5 := prs c5
            refine XC.seq <| XC.region <| XL.op rfl (XO.of_ro rfl (lb rfl) (RO.build0 bd_24 rfl )) <| XL.op rfl (XO.store ag_24 rfl rfl rfl rfl (lb rfl) rfl) <| oA rfl rfl <| XL.nil <| XQ.seq <| XC.ret ?_
            refine XQ.ret2 (fun _ _ h => h) rfl (RA.cellAgg ag_24 rfl rfl rfl rfl) ?s0 (RA.tmp rfl) ?s1 rfl
            case s0 => (rw [plusL_c hv (by omega) (by omega) (by omega)]); exact (by repeat' constructor)
            case s1 => (rw [plusL_c hv (by omega) (by omega) (by omega)]); exact (by repeat' constructor)
          ·
            replace c5 := prs c5
            refine XC.skip <| XQ.seq <| XC.seq <| XC.seq ?_
            have hp2 : plusC L n ≤ 100 := by omega
            refine XC.adoptC (i := 2) (off := 1) 69 2 rfl rfl <| XC.region <| oA rfl rfl <| XL.nil <| XQ.seq <| XC.block ?_
            refine XC.loop (X := Nat) (fun k => ⟨[(1, .v (.one (.d (.v (.int .i64 n))))), (2, .v (.one (.ptr 0 0))), (4, .v (.one (.ptr 1 0))), (6, .v (.one (.ptr 2 0))), (7, TI k)], [(0, .cells 24 [.d (.v (.int .i64 L.c)), .d (vsC L.vs)]), (1, .cells 24 [.d (.v (.int .i64 0)), .d (.v (.slice none 0 0))]), (2, .cells 24 [.d (.v (.int .i64 (plusC L n))), .app 3 2 ((upV n (L.vs.take k)).map lvC)])], [(3, some ⟨69, 2, ((upV n (L.vs.take k)).map lvC).length⟩)], 4, 75, []⟩) (fun k => k ≤ L.vs.length ∧ ∀ (j : Nat) (x : LV), j < k → L.vs[j]? = some x → x.2 + n ≤ 100) (fun k => L.vs.length - k) 0 ?h0 ⟨Nat.zero_le _, fun j x h => absurd h (Nat.not_lt_zero j)⟩ ?_
            case h0 =>
              try dsimp only
              rw [hp1]
              exact ⟨(by repeat' constructor), (by repeat' constructor), (by repeat (first | exact trivial | refine ⟨(by intro T h; first | (cases h; rfl) | cases h), ?_⟩)), (lb rfl), Nat.zero_le _, rfl, rfl, (by simp [tmBelow, TV.below, AV.below, CA.below]), (by simp [hpBelow, HB.below, CA.below]), (by simp [tkBelow]), (by simp)⟩
            rintro k ⟨hk, hn⟩
            try dsimp only
            refine XC.seq <| XC.seq <| XC.region <| oM rfl rfl ?_
            first | refine oR rfl rfl rfl (RO.fieldOwn fo_24_1 rfl) ?_ | refine oR rfl rfl rfl (RO.fieldPel fo_24_1 rfl) ?_
            first | refine oR rfl rfl rfl (RO.loadOwn ag_22 rfl rfl rfl) ?_ | refine oR rfl rfl rfl (RO.loadPel ag_22 rfl rfl) ?_
            refine XL.op rfl (XO.of_ro rfl (lb rfl) (RO.len sl_22 rfl (by repeat' constructor))) ?_
            refine oR rfl rfl rfl (RO.cmp rfl rfl rfl) <| XL.nil <| XQ.seq ?_
            refine XC.cond rfl (fun c6 => ?_) (fun c6 => ?_)
            ·
              replace c6 := prs c6
              simp only [List.length_map] at c6
              have hlx : k < L.vs.length := by omega
              obtain ⟨⟨x1, x2⟩, hx⟩ : ∃ x, L.vs[k]? = some x := ⟨_, List.getElem?_eq_getElem hlx⟩
              have hxo := valid_okVar hv hx
              dsimp only at hxo
              refine XC.skip <| XQ.seq <| XC.seq <| XC.block <| XC.seq <| XC.seq <| XC.region ?_
              first | refine oR rfl rfl rfl (RO.fieldOwn fo_24_1 rfl) ?_ | refine oR rfl rfl rfl (RO.fieldPel fo_24_1 rfl) ?_
              first | refine oR rfl rfl rfl (RO.loadOwn ag_22 rfl rfl rfl) ?_ | refine oR rfl rfl rfl (RO.loadPel ag_22 rfl rfl) ?_
              refine oM rfl rfl ?_
              refine XL.op rfl (XO.of_ro rfl (lb rfl) (RO.index sl_22 rfl (by repeat' constructor) rfl rfl (map_get hx))) ?_
              first | refine oR rfl rfl rfl (RO.fieldOwn fo_69_1 rfl) ?_ | refine oR rfl rfl rfl (RO.fieldPel fo_69_1 rfl) ?_
              first | refine oR rfl rfl rfl (RO.loadOwn ag_3 rfl rfl rfl) ?_ | refine oR rfl rfl rfl (RO.loadPel ag_3 rfl rfl) ?_
              refine oM rfl rfl ?_
              refine XL.op rfl (XO.of_ro rfl (lb rfl) (RO.arith rfl rfl rfl (by omega) (by omega))) ?_
              refine oR rfl rfl rfl (RO.cmp rfl rfl rfl) <| XL.nil <| XQ.seq ?_
              refine XC.cond rfl (fun c7 => ?_) (fun c7 => ?_)
              ·
                replace c7 := prs c7
                refine XC.seq <| XC.region <| XL.op rfl (XO.of_ro rfl (lb rfl) (RO.build0 bd_24 rfl )) <| XL.op rfl (XO.store ag_24 rfl rfl rfl rfl (lb rfl) rfl) <| oA rfl rfl <| XL.nil <| XQ.seq <| XC.ret ?_
                refine XQ.ret2 (fun _ _ h => h) rfl (RA.cellAgg ag_24 rfl rfl rfl rfl) ?s0 (RA.tmp rfl) ?s1 rfl
                case s0 => (rw [plusL_at hv (by omega) (by omega) hx (by dsimp only; omega)]); exact (by repeat' constructor)
                case s1 => (rw [plusL_at hv (by omega) (by omega) hx (by dsimp only; omega)]); exact (by repeat' constructor)
              ·
                replace c7 := prs c7
                refine XC.skip <| XQ.seq ?_
                refine XC.any [0, 1, 2, 3, 4, 5, 6, 7, 8, 9, 10, 11, 12, 13, 14, 15, 16, 17] [18, 19, 20] mixed (by kernel_rfl) (by kernel_rfl) rfl (by kernel_rfl) rfl ?_
                first | refine HF.cons rfl (HOp.ro rfl (RO.fieldOwn fo_24_1 rfl)) ?_ | refine HF.cons rfl (HOp.ro rfl (RO.fieldPel fo_24_1 rfl)) ?_
                first | refine HF.cons rfl (HOp.ro rfl (RO.loadOwn ag_22 rfl rfl rfl)) ?_ | refine HF.cons rfl (HOp.ro rfl (RO.loadPel ag_22 rfl rfl)) ?_
                first | refine HF.cons rfl (HOp.ro rfl (RO.fieldOwn fo_24_1 rfl)) ?_ | refine HF.cons rfl (HOp.ro rfl (RO.fieldPel fo_24_1 rfl)) ?_
                first | refine HF.cons rfl (HOp.ro rfl (RO.loadOwn ag_22 rfl rfl rfl)) ?_ | refine HF.cons rfl (HOp.ro rfl (RO.loadPel ag_22 rfl rfl)) ?_
                refine HF.cons rfl (HOp.ro rfl (RO.move rfl)) ?_
                refine HF.cons rfl (HOp.ro rfl (RO.index sl_22 rfl (by repeat' constructor) rfl rfl (map_get hx))) ?_
                first | refine HF.cons rfl (HOp.ro rfl (RO.fieldOwn fo_69_0 rfl)) ?_ | refine HF.cons rfl (HOp.ro rfl (RO.fieldPel fo_69_0 rfl)) ?_
                first | refine HF.cons rfl (HOp.ro rfl (RO.loadOwn ag_3 rfl rfl rfl)) ?_ | refine HF.cons rfl (HOp.ro rfl (RO.loadPel ag_3 rfl rfl)) ?_
                first | refine HF.cons rfl (HOp.ro rfl (RO.fieldOwn fo_24_1 rfl)) ?_ | refine HF.cons rfl (HOp.ro rfl (RO.fieldPel fo_24_1 rfl)) ?_
                first | refine HF.cons rfl (HOp.ro rfl (RO.loadOwn ag_22 rfl rfl rfl)) ?_ | refine HF.cons rfl (HOp.ro rfl (RO.loadPel ag_22 rfl rfl)) ?_
                refine HF.cons rfl (HOp.ro rfl (RO.move rfl)) ?_
                refine HF.cons rfl (HOp.ro rfl (RO.index sl_22 rfl (by repeat' constructor) rfl rfl (map_get hx))) ?_
                first | refine HF.cons rfl (HOp.ro rfl (RO.fieldOwn fo_69_1 rfl)) ?_ | refine HF.cons rfl (HOp.ro rfl (RO.fieldPel fo_69_1 rfl)) ?_
                first | refine HF.cons rfl (HOp.ro rfl (RO.loadOwn ag_3 rfl rfl rfl)) ?_ | refine HF.cons rfl (HOp.ro rfl (RO.loadPel ag_3 rfl rfl)) ?_
                refine HF.cons rfl (HOp.ro rfl (RO.move rfl)) ?_
                refine HF.cons rfl (HOp.ro rfl (RO.arith rfl rfl rfl (by omega) (by omega))) ?_
                refine HF.cons rfl (HOp.ro rfl (RO.build2 bd_69 rfl rfl rfl rfl)) ?_
                refine HF.cons rfl (HOp.lit1 (c1 := [_, _]) sl_22 z_69 rfl rfl (lb rfl) (lb rfl) rfl rfl (by repeat' constructor) rfl (lb rfl)) ?_
                refine HF.nil ?_
                first | refine XL.op rfl (XO.appendApp sl_22 el_69 (lb rfl) rfl rfl rfl (by repeat' constructor) (by simp only [List.length_map, List.length_cons, List.length_nil, upV, List.length_take]; omega) (lb rfl)) ?_ | refine XL.op rfl (XO.appendNil sl_22 el_69 (lb rfl) rfl rfl (by repeat' constructor) (by simp only [List.length_map, List.length_cons, List.length_nil, upV, List.length_take]; omega) (lb rfl)) ?_
                first | refine oR rfl rfl rfl (RO.fieldOwn fo_24_1 rfl) ?_ | refine oR rfl rfl rfl (RO.fieldPel fo_24_1 rfl) ?_
                refine XL.op rfl (XO.store ag_22 rfl rfl rfl rfl (lb rfl) rfl) <| XL.nil <| XQ.inBlock <| XQ.seq <| XC.region <| oM rfl rfl ?_
                refine XL.op rfl (XO.of_ro rfl (lb rfl) (RO.arith rfl rfl rfl (by omega) (by omega))) ?_
                refine oA rfl rfl <| XL.nil ?_
                refine XQ.next (k + 1) ?le ⟨by omega, ?_⟩ (by omega)
                case le =>
                  try dsimp only
                  rw [upV_snoc n hx, List.map_append]
                  exact ⟨(by repeat' constructor), (by repeat' constructor), (by repeat (first | exact trivial | refine ⟨(by intro T h; first | (cases h; rfl) | cases h), ?_⟩)), (lb rfl), Nat.zero_le _, rfl, rfl, (by simp [tmBelow, TV.below, AV.below, CA.below]), (by simp [hpBelow, HB.below, CA.below]), (by simp [tkBelow]), (by simp)⟩
                intro j y hj h
                rcases Nat.lt_or_ge j k with h2 | h2
                · exact hn j y h2 h
                · obtain rfl : j = k := by omega
                  rw [hx] at h; cases h; dsimp only; omega
            ·
              replace c6 := prs c6
              have hkL : k = L.vs.length := by simp only [List.length_map] at c6; omega
              subst hkL
              rw [List.take_length]
              refine XC.exit <| XQ.thenE <| XQ.thenE <| XQ.blockX <| XQ.seq <| XC.seq <| XC.region ?_
              first | refine oR rfl rfl rfl (RO.loadOwnAgg ag_24 rfl rfl rfl rfl) ?_ | refine oR rfl rfl rfl (RO.loadPelAgg ag_24 rfl rfl rfl) ?_
              refine XL.op rfl (XO.store ag_24 rfl rfl rfl rfl (lb rfl) rfl) <| oA rfl rfl <| XL.nil <| XQ.seq <| XC.ret ?_
              refine XQ.ret2 (fun _ _ h => h) rfl (RA.cellAgg ag_24 rfl rfl rfl rfl) ?s0 (RA.tmp rfl) ?s1 rfl
              case s0 => (rw [plusL_ok hv (by omega) (by omega) hp2 (fun j x h => hn j x (List.getElem?_eq_some_iff.1 h).1 h)]); exact (by repeat' constructor)
              case s1 => (rw [plusL_ok hv (by omega) (by omega) hp2 (fun j x h => hn j x (List.getElem?_eq_some_iff.1 h).1 h)]); exact (by repeat' constructor)
        ·
          replace c4 := prs c4
          first | refine nR rfl rfl rfl rfl rfl (RO.fieldOwn fo_24_1 rfl) ?_ | refine nR rfl rfl rfl rfl rfl (RO.fieldPel fo_24_1 rfl) ?_
          first | refine nR rfl rfl rfl rfl rfl (RO.loadOwn ag_22 rfl rfl rfl) ?_ | refine nR rfl rfl rfl rfl rfl (RO.loadPel ag_22 rfl rfl) ?_
          refine XL.on rfl rfl rfl (XO.of_ro rfl (lb rfl) (RO.len sl_22 rfl (by repeat' constructor))) ?_
          refine nR rfl rfl rfl rfl rfl (RO.cmp rfl rfl rfl) <| oR rfl rfl rfl (RO.pickF rfl rfl) <| XL.nil <| XQ.seq ?_
          refine XC.cond rfl (fun c8 => ?_) (fun c8 => ?_)
          ·
            replace c8 := prs c8
            try have hp1 : plusC L n = L.c + n := plusC_yes (.inr (List.eq_nil_of_length_eq_zero (by simp only [List.length_map] at c8; omega)))
            refine XC.region ?_
            first | refine oR rfl rfl rfl (RO.fieldOwn fo_24_0 rfl) ?_ | refine oR rfl rfl rfl (RO.fieldPel fo_24_0 rfl) ?_
            first | refine oR rfl rfl rfl (RO.loadOwn ag_3 rfl rfl rfl) ?_ | refine oR rfl rfl rfl (RO.loadPel ag_3 rfl rfl) ?_
            refine oM rfl rfl ?_
            refine XL.op rfl (XO.of_ro rfl (lb rfl) (RO.arith rfl rfl rfl (by omega) (by omega))) ?_
            first | refine oR rfl rfl rfl (RO.fieldOwn fo_24_0 rfl) ?_ | refine oR rfl rfl rfl (RO.fieldPel fo_24_0 rfl) ?_
            refine XL.op rfl (XO.store ag_3 rfl rfl rfl rfl (lb rfl) rfl) <| XL.nil <| XQ.seq <| XC.seq <| XC.seq <| XC.region ?_
            first | refine oR rfl rfl rfl (RO.fieldOwn fo_24_0 rfl) ?_ | refine oR rfl rfl rfl (RO.fieldPel fo_24_0 rfl) ?_
            first | refine oR rfl rfl rfl (RO.loadOwn ag_3 rfl rfl rfl) ?_ | refine oR rfl rfl rfl (RO.loadPel ag_3 rfl rfl) ?_
            refine oR rfl rfl rfl (RO.cmp rfl rfl rfl) <| XL.nil <| XQ.seq ?_
            refine XC.cond rfl (fun c9 => ?_) (fun c9 => ?_)
            ·
              replace c9 := prs c9
              refine XC.seq <| XC.region <| XL.op rfl (XO.of_ro rfl (lb rfl) (RO.build0 bd_24 rfl )) <| XL.op rfl (XO.store ag_24 rfl rfl rfl rfl (lb rfl) rfl) <| oA rfl rfl <| XL.nil <| XQ.seq <| XC.ret ?_
              refine XQ.ret2 (fun _ _ h => h) rfl (RA.cellAgg ag_24 rfl rfl rfl rfl) ?s0 (RA.tmp rfl) ?s1 rfl
              case s0 => (rw [plusL_c hv (by omega) (by omega) (by omega)]); exact (by repeat' constructor)
              case s1 => (rw [plusL_c hv (by omega) (by omega) (by omega)]); exact (by repeat' constructor)
            ·
              replace c9 := prs c9
              refine XC.skip <| XQ.seq <| XC.seq <| XC.seq ?_
              have hp2 : plusC L n ≤ 100 := by omega
              refine XC.adoptC (i := 2) (off := 1) 69 2 rfl rfl <| XC.region <| oA rfl rfl <| XL.nil <| XQ.seq <| XC.block ?_
              refine XC.loop (X := Nat) (fun k => ⟨[(1, .v (.one (.d (.v (.int .i64 n))))), (2, .v (.one (.ptr 0 0))), (4, .v (.one (.ptr 1 0))), (6, .v (.one (.ptr 2 0))), (7, TI k)], [(0, .cells 24 [.d (.v (.int .i64 L.c)), .d (vsC L.vs)]), (1, .cells 24 [.d (.v (.int .i64 0)), .d (.v (.slice none 0 0))]), (2, .cells 24 [.d (.v (.int .i64 (plusC L n))), .app 3 2 ((upV n (L.vs.take k)).map lvC)])], [(3, some ⟨69, 2, ((upV n (L.vs.take k)).map lvC).length⟩)], 4, 75, []⟩) (fun k => k ≤ L.vs.length ∧ ∀ (j : Nat) (x : LV), j < k → L.vs[j]? = some x → x.2 + n ≤ 100) (fun k => L.vs.length - k) 0 ?h0 ⟨Nat.zero_le _, fun j x h => absurd h (Nat.not_lt_zero j)⟩ ?_
              case h0 =>
                try dsimp only
                rw [hp1]
                exact ⟨(by repeat' constructor), (by repeat' constructor), (by repeat (first | exact trivial | refine ⟨(by intro T h; first | (cases h; rfl) | cases h), ?_⟩)), (lb rfl), Nat.zero_le _, rfl, rfl, (by simp [tmBelow, TV.below, AV.below, CA.below]), (by simp [hpBelow, HB.below, CA.below]), (by simp [tkBelow]), (by simp)⟩
              rintro k ⟨hk, hn⟩
              try dsimp only
              refine XC.seq <| XC.seq <| XC.region <| oM rfl rfl ?_
              first | refine oR rfl rfl rfl (RO.fieldOwn fo_24_1 rfl) ?_ | refine oR rfl rfl rfl (RO.fieldPel fo_24_1 rfl) ?_
              first | refine oR rfl rfl rfl (RO.loadOwn ag_22 rfl rfl rfl) ?_ | refine oR rfl rfl rfl (RO.loadPel ag_22 rfl rfl) ?_
              refine XL.op rfl (XO.of_ro rfl (lb rfl) (RO.len sl_22 rfl (by repeat' constructor))) ?_
              refine oR rfl rfl rfl (RO.cmp rfl rfl rfl) <| XL.nil <| XQ.seq ?_
              refine XC.cond rfl (fun c10 => ?_) (fun c10 => ?_)
              ·
                replace c10 := prs c10
                simp only [List.length_map] at c10
                have hlx : k < L.vs.length := by omega
                obtain ⟨⟨x1, x2⟩, hx⟩ : ∃ x, L.vs[k]? = some x := ⟨_, List.getElem?_eq_getElem hlx⟩
                have hxo := valid_okVar hv hx
                dsimp only at hxo
                refine XC.skip <| XQ.seq <| XC.seq <| XC.block <| XC.seq <| XC.seq <| XC.region ?_
                first | refine oR rfl rfl rfl (RO.fieldOwn fo_24_1 rfl) ?_ | refine oR rfl rfl rfl (RO.fieldPel fo_24_1 rfl) ?_
                first | refine oR rfl rfl rfl (RO.loadOwn ag_22 rfl rfl rfl) ?_ | refine oR rfl rfl rfl (RO.loadPel ag_22 rfl rfl) ?_
                refine oM rfl rfl ?_
                refine XL.op rfl (XO.of_ro rfl (lb rfl) (RO.index sl_22 rfl (by repeat' constructor) rfl rfl (map_get hx))) ?_
                first | refine oR rfl rfl rfl (RO.fieldOwn fo_69_1 rfl) ?_ | refine oR rfl rfl rfl (RO.fieldPel fo_69_1 rfl) ?_
                first | refine oR rfl rfl rfl (RO.loadOwn ag_3 rfl rfl rfl) ?_ | refine oR rfl rfl rfl (RO.loadPel ag_3 rfl rfl) ?_
                refine oM rfl rfl ?_
                refine XL.op rfl (XO.of_ro rfl (lb rfl) (RO.arith rfl rfl rfl (by omega) (by omega))) ?_
                refine oR rfl rfl rfl (RO.cmp rfl rfl rfl) <| XL.nil <| XQ.seq ?_
                refine XC.cond rfl (fun c11 => ?_) (fun c11 => ?_)
                ·
                  replace c11 := prs c11
                  refine XC.seq <| XC.region <| XL.op rfl (XO.of_ro rfl (lb rfl) (RO.build0 bd_24 rfl )) <| XL.op rfl (XO.store ag_24 rfl rfl rfl rfl (lb rfl) rfl) <| oA rfl rfl <| XL.nil <| XQ.seq <| XC.ret ?_
                  refine XQ.ret2 (fun _ _ h => h) rfl (RA.cellAgg ag_24 rfl rfl rfl rfl) ?s0 (RA.tmp rfl) ?s1 rfl
                  case s0 => (rw [plusL_at hv (by omega) (by omega) hx (by dsimp only; omega)]); exact (by repeat' constructor)
                  case s1 => (rw [plusL_at hv (by omega) (by omega) hx (by dsimp only; omega)]); exact (by repeat' constructor)
                ·
                  replace c11 := prs c11
                  refine XC.skip <| XQ.seq ?_
                  refine XC.any [0, 1, 2, 3, 4, 5, 6, 7, 8, 9, 10, 11, 12, 13, 14, 15, 16, 17] [18, 19, 20] mixed (by kernel_rfl) (by kernel_rfl) rfl (by kernel_rfl) rfl ?_
                  first | refine HF.cons rfl (HOp.ro rfl (RO.fieldOwn fo_24_1 rfl)) ?_ | refine HF.cons rfl (HOp.ro rfl (RO.fieldPel fo_24_1 rfl)) ?_
                  first | refine HF.cons rfl (HOp.ro rfl (RO.loadOwn ag_22 rfl rfl rfl)) ?_ | refine HF.cons rfl (HOp.ro rfl (RO.loadPel ag_22 rfl rfl)) ?_
                  first | refine HF.cons rfl (HOp.ro rfl (RO.fieldOwn fo_24_1 rfl)) ?_ | refine HF.cons rfl (HOp.ro rfl (RO.fieldPel fo_24_1 rfl)) ?_
                  first | refine HF.cons rfl (HOp.ro rfl (RO.loadOwn ag_22 rfl rfl rfl)) ?_ | refine HF.cons rfl (HOp.ro rfl (RO.loadPel ag_22 rfl rfl)) ?_
                  refine HF.cons rfl (HOp.ro rfl (RO.move rfl)) ?_
                  refine HF.cons rfl (HOp.ro rfl (RO.index sl_22 rfl (by repeat' constructor) rfl rfl (map_get hx))) ?_
                  first | refine HF.cons rfl (HOp.ro rfl (RO.fieldOwn fo_69_0 rfl)) ?_ | refine HF.cons rfl (HOp.ro rfl (RO.fieldPel fo_69_0 rfl)) ?_
                  first | refine HF.cons rfl (HOp.ro rfl (RO.loadOwn ag_3 rfl rfl rfl)) ?_ | refine HF.cons rfl (HOp.ro rfl (RO.loadPel ag_3 rfl rfl)) ?_
                  first | refine HF.cons rfl (HOp.ro rfl (RO.fieldOwn fo_24_1 rfl)) ?_ | refine HF.cons rfl (HOp.ro rfl (RO.fieldPel fo_24_1 rfl)) ?_
                  first | refine HF.cons rfl (HOp.ro rfl (RO.loadOwn ag_22 rfl rfl rfl)) ?_ | refine HF.cons rfl (HOp.ro rfl (RO.loadPel ag_22 rfl rfl)) ?_
                  refine HF.cons rfl (HOp.ro rfl (RO.move rfl)) ?_
                  refine HF.cons rfl (HOp.ro rfl (RO.index sl_22 rfl (by repeat' constructor) rfl rfl (map_get hx))) ?_
                  first | refine HF.cons rfl (HOp.ro rfl (RO.fieldOwn fo_69_1 rfl)) ?_ | refine HF.cons rfl (HOp.ro rfl (RO.fieldPel fo_69_1 rfl)) ?_
                  first | refine HF.cons rfl (HOp.ro rfl (RO.loadOwn ag_3 rfl rfl rfl)) ?_ | refine HF.cons rfl (HOp.ro rfl (RO.loadPel ag_3 rfl rfl)) ?_
                  refine HF.cons rfl (HOp.ro rfl (RO.move rfl)) ?_
                  refine HF.cons rfl (HOp.ro rfl (RO.arith rfl rfl rfl (by omega) (by omega))) ?_
                  refine HF.cons rfl (HOp.ro rfl (RO.build2 bd_69 rfl rfl rfl rfl)) ?_
                  refine HF.cons rfl (HOp.lit1 (c1 := [_, _]) sl_22 z_69 rfl rfl (lb rfl) (lb rfl) rfl rfl (by repeat' constructor) rfl (lb rfl)) ?_
                  refine HF.nil ?_
                  first | refine XL.op rfl (XO.appendApp sl_22 el_69 (lb rfl) rfl rfl rfl (by repeat' constructor) (by simp only [List.length_map, List.length_cons, List.length_nil, upV, List.length_take]; omega) (lb rfl)) ?_ | refine XL.op rfl (XO.appendNil sl_22 el_69 (lb rfl) rfl rfl (by repeat' constructor) (by simp only [List.length_map, List.length_cons, List.length_nil, upV, List.length_take]; omega) (lb rfl)) ?_
                  first | refine oR rfl rfl rfl (RO.fieldOwn fo_24_1 rfl) ?_ | refine oR rfl rfl rfl (RO.fieldPel fo_24_1 rfl) ?_
                  refine XL.op rfl (XO.store ag_22 rfl rfl rfl rfl (lb rfl) rfl) <| XL.nil <| XQ.inBlock <| XQ.seq <| XC.region <| oM rfl rfl ?_
                  refine XL.op rfl (XO.of_ro rfl (lb rfl) (RO.arith rfl rfl rfl (by omega) (by omega))) ?_
                  refine oA rfl rfl <| XL.nil ?_
                  refine XQ.next (k + 1) ?le ⟨by omega, ?_⟩ (by omega)
                  case le =>
                    try dsimp only
                    rw [upV_snoc n hx, List.map_append]
                    exact ⟨(by repeat' constructor), (by repeat' constructor), (by repeat (first | exact trivial | refine ⟨(by intro T h; first | (cases h; rfl) | cases h), ?_⟩)), (lb rfl), Nat.zero_le _, rfl, rfl, (by simp [tmBelow, TV.below, AV.below, CA.below]), (by simp [hpBelow, HB.below, CA.below]), (by simp [tkBelow]), (by simp)⟩
                  intro j y hj h
                  rcases Nat.lt_or_ge j k with h2 | h2
                  · exact hn j y h2 h
                  · obtain rfl : j = k := by omega
                    rw [hx] at h; cases h; dsimp only; omega
              ·
                replace c10 := prs c10
                have hkL : k = L.vs.length := by simp only [List.length_map] at c10; omega
                subst hkL
                rw [List.take_length]
                refine XC.exit <| XQ.thenE <| XQ.thenE <| XQ.blockX <| XQ.seq <| XC.seq <| XC.region ?_
                first | refine oR rfl rfl rfl (RO.loadOwnAgg ag_24 rfl rfl rfl rfl) ?_ | refine oR rfl rfl rfl (RO.loadPelAgg ag_24 rfl rfl rfl) ?_
                refine XL.op rfl (XO.store ag_24 rfl rfl rfl rfl (lb rfl) rfl) <| oA rfl rfl <| XL.nil <| XQ.seq <| XC.ret ?_
                refine XQ.ret2 (fun _ _ h => h) rfl (RA.cellAgg ag_24 rfl rfl rfl rfl) ?s0 (RA.tmp rfl) ?s1 rfl
                case s0 => (rw [plusL_ok hv (by omega) (by omega) hp2 (fun j x h => hn j x (List.getElem?_eq_some_iff.1 h).1 h)]); exact (by repeat' constructor)
                case s1 => (rw [plusL_ok hv (by omega) (by omega) hp2 (fun j x h => hn j x (List.getElem?_eq_some_iff.1 h).1 h)]); exact (by repeat' constructor)
          ·
            replace c8 := prs c8
            have hp1 : plusC L n = 0 := plusC_no (by omega) (fun h => c8 (by rw [h]; rfl))
            refine XC.skip <| XQ.seq <| XC.seq <| XC.seq <| XC.region ?_
            first | refine oR rfl rfl rfl (RO.fieldOwn fo_24_0 rfl) ?_ | refine oR rfl rfl rfl (RO.fieldPel fo_24_0 rfl) ?_
            first | refine oR rfl rfl rfl (RO.loadOwn ag_3 rfl rfl rfl) ?_ | refine oR rfl rfl rfl (RO.loadPel ag_3 rfl rfl) ?_
            refine oR rfl rfl rfl (RO.cmp rfl rfl rfl) <| XL.nil <| XQ.seq ?_
            refine XC.cond rfl (fun c12 => ?_) (fun c12 => ?_)
            ·
              replace c12 := prs c12
              refine XC.seq <| XC.region <| XL.op rfl (XO.of_ro rfl (lb rfl) (RO.build0 bd_24 rfl )) <| XL.op rfl (XO.store ag_24 rfl rfl rfl rfl (lb rfl) rfl) <| oA rfl rfl <| XL.nil <| XQ.seq <| XC.ret ?_
              refine XQ.ret2 (fun _ _ h => h) rfl (RA.cellAgg ag_24 rfl rfl rfl rfl) ?s0 (RA.tmp rfl) ?s1 rfl
              case s0 => (rw [plusL_c hv (by omega) (by omega) (by omega)]); exact (by repeat' constructor)
              case s1 => (rw [plusL_c hv (by omega) (by omega) (by omega)]); exact (by repeat' constructor)
            ·
              replace c12 := prs c12
              refine XC.skip <| XQ.seq <| XC.seq <| XC.seq ?_
              have hp2 : plusC L n ≤ 100 := by omega
              refine XC.adoptC (i := 2) (off := 1) 69 2 rfl rfl <| XC.region <| oA rfl rfl <| XL.nil <| XQ.seq <| XC.block ?_
              refine XC.loop (X := Nat) (fun k => ⟨[(1, .v (.one (.d (.v (.int .i64 n))))), (2, .v (.one (.ptr 0 0))), (4, .v (.one (.ptr 1 0))), (6, .v (.one (.ptr 2 0))), (7, TI k)], [(0, .cells 24 [.d (.v (.int .i64 L.c)), .d (vsC L.vs)]), (1, .cells 24 [.d (.v (.int .i64 0)), .d (.v (.slice none 0 0))]), (2, .cells 24 [.d (.v (.int .i64 (plusC L n))), .app 3 2 ((upV n (L.vs.take k)).map lvC)])], [(3, some ⟨69, 2, ((upV n (L.vs.take k)).map lvC).length⟩)], 4, 75, []⟩) (fun k => k ≤ L.vs.length ∧ ∀ (j : Nat) (x : LV), j < k → L.vs[j]? = some x → x.2 + n ≤ 100) (fun k => L.vs.length - k) 0 ?h0 ⟨Nat.zero_le _, fun j x h => absurd h (Nat.not_lt_zero j)⟩ ?_
              case h0 =>
                try dsimp only
                rw [hp1]
                exact ⟨(by repeat' constructor), (by repeat' constructor), (by repeat (first | exact trivial | refine ⟨(by intro T h; first | (cases h; rfl) | cases h), ?_⟩)), (lb rfl), Nat.zero_le _, rfl, rfl, (by simp [tmBelow, TV.below, AV.below, CA.below]), (by simp [hpBelow, HB.below, CA.below]), (by simp [tkBelow]), (by simp)⟩
              rintro k ⟨hk, hn⟩
              try dsimp only
              refine XC.seq <| XC.seq <| XC.region <| oM rfl rfl ?_
              first | refine oR rfl rfl rfl (RO.fieldOwn fo_24_1 rfl) ?_ | refine oR rfl rfl rfl (RO.fieldPel fo_24_1 rfl) ?_
              first | refine oR rfl rfl rfl (RO.loadOwn ag_22 rfl rfl rfl) ?_ | refine oR rfl rfl rfl (RO.loadPel ag_22 rfl rfl) ?_
              refine XL.op rfl (XO.of_ro rfl (lb rfl) (RO.len sl_22 rfl (by repeat' constructor))) ?_
              refine oR rfl rfl rfl (RO.cmp rfl rfl rfl) <| XL.nil <| XQ.seq ?_
              refine XC.cond rfl (fun c13 => ?_) (fun c13 => ?_)
              ·
                replace c13 := prs c13
                simp only [List.length_map] at c13
                have hlx : k < L.vs.length := by omega
                obtain ⟨⟨x1, x2⟩, hx⟩ : ∃ x, L.vs[k]? = some x := ⟨_, List.getElem?_eq_getElem hlx⟩
                have hxo := valid_okVar hv hx
                dsimp only at hxo
                refine XC.skip <| XQ.seq <| XC.seq <| XC.block <| XC.seq <| XC.seq <| XC.region ?_
                first | refine oR rfl rfl rfl (RO.fieldOwn fo_24_1 rfl) ?_ | refine oR rfl rfl rfl (RO.fieldPel fo_24_1 rfl) ?_
                first | refine oR rfl rfl rfl (RO.loadOwn ag_22 rfl rfl rfl) ?_ | refine oR rfl rfl rfl (RO.loadPel ag_22 rfl rfl) ?_
                refine oM rfl rfl ?_
                refine XL.op rfl (XO.of_ro rfl (lb rfl) (RO.index sl_22 rfl (by repeat' constructor) rfl rfl (map_get hx))) ?_
                first | refine oR rfl rfl rfl (RO.fieldOwn fo_69_1 rfl) ?_ | refine oR rfl rfl rfl (RO.fieldPel fo_69_1 rfl) ?_
                first | refine oR rfl rfl rfl (RO.loadOwn ag_3 rfl rfl rfl) ?_ | refine oR rfl rfl rfl (RO.loadPel ag_3 rfl rfl) ?_
                refine oM rfl rfl ?_
                refine XL.op rfl (XO.of_ro rfl (lb rfl) (RO.arith rfl rfl rfl (by omega) (by omega))) ?_
                refine oR rfl rfl rfl (RO.cmp rfl rfl rfl) <| XL.nil <| XQ.seq ?_
                refine XC.cond rfl (fun c14 => ?_) (fun c14 => ?_)
                ·
                  replace c14 := prs c14
                  refine XC.seq <| XC.region <| XL.op rfl (XO.of_ro rfl (lb rfl) (RO.build0 bd_24 rfl )) <| XL.op rfl (XO.store ag_24 rfl rfl rfl rfl (lb rfl) rfl) <| oA rfl rfl <| XL.nil <| XQ.seq <| XC.ret ?_
                  refine XQ.ret2 (fun _ _ h => h) rfl (RA.cellAgg ag_24 rfl rfl rfl rfl) ?s0 (RA.tmp rfl) ?s1 rfl
                  case s0 => (rw [plusL_at hv (by omega) (by omega) hx (by dsimp only; omega)]); exact (by repeat' constructor)
                  case s1 => (rw [plusL_at hv (by omega) (by omega) hx (by dsimp only; omega)]); exact (by repeat' constructor)
                ·
                  replace c14 := prs c14
                  refine XC.skip <| XQ.seq ?_
                  refine XC.any [0, 1, 2, 3, 4, 5, 6, 7, 8, 9, 10, 11, 12, 13, 14, 15, 16, 17] [18, 19, 20] mixed (by kernel_rfl) (by kernel_rfl) rfl (by kernel_rfl) rfl ?_
                  first | refine HF.cons rfl (HOp.ro rfl (RO.fieldOwn fo_24_1 rfl)) ?_ | refine HF.cons rfl (HOp.ro rfl (RO.fieldPel fo_24_1 rfl)) ?_
                  first | refine HF.cons rfl (HOp.ro rfl (RO.loadOwn ag_22 rfl rfl rfl)) ?_ | refine HF.cons rfl (HOp.ro rfl (RO.loadPel ag_22 rfl rfl)) ?_
                  first | refine HF.cons rfl (HOp.ro rfl (RO.fieldOwn fo_24_1 rfl)) ?_ | refine HF.cons rfl (HOp.ro rfl (RO.fieldPel fo_24_1 rfl)) ?_
                  first | refine HF.cons rfl (HOp.ro rfl (RO.loadOwn ag_22 rfl rfl rfl)) ?_ | refine HF.cons rfl (HOp.ro rfl (RO.loadPel ag_22 rfl rfl)) ?_
                  refine HF.cons rfl (HOp.ro rfl (RO.move rfl)) ?_
                  refine HF.cons rfl (HOp.ro rfl (RO.index sl_22 rfl (by repeat' constructor) rfl rfl (map_get hx))) ?_
                  first | refine HF.cons rfl (HOp.ro rfl (RO.fieldOwn fo_69_0 rfl)) ?_ | refine HF.cons rfl (HOp.ro rfl (RO.fieldPel fo_69_0 rfl)) ?_
                  first | refine HF.cons rfl (HOp.ro rfl (RO.loadOwn ag_3 rfl rfl rfl)) ?_ | refine HF.cons rfl (HOp.ro rfl (RO.loadPel ag_3 rfl rfl)) ?_
                  first | refine HF.cons rfl (HOp.ro rfl (RO.fieldOwn fo_24_1 rfl)) ?_ | refine HF.cons rfl (HOp.ro rfl (RO.fieldPel fo_24_1 rfl)) ?_
                  first | refine HF.cons rfl (HOp.ro rfl (RO.loadOwn ag_22 rfl rfl rfl)) ?_ | refine HF.cons rfl (HOp.ro rfl (RO.loadPel ag_22 rfl rfl)) ?_
                  refine HF.cons rfl (HOp.ro rfl (RO.move rfl)) ?_
                  refine HF.cons rfl (HOp.ro rfl (RO.index sl_22 rfl (by repeat' constructor) rfl rfl (map_get hx))) ?_
                  first | refine HF.cons rfl (HOp.ro rfl (RO.fieldOwn fo_69_1 rfl)) ?_ | refine HF.cons rfl (HOp.ro rfl (RO.fieldPel fo_69_1 rfl)) ?_
                  first | refine HF.cons rfl (HOp.ro rfl (RO.loadOwn ag_3 rfl rfl rfl)) ?_ | refine HF.cons rfl (HOp.ro rfl (RO.loadPel ag_3 rfl rfl)) ?_
                  refine HF.cons rfl (HOp.ro rfl (RO.move rfl)) ?_
                  refine HF.cons rfl (HOp.ro rfl (RO.arith rfl rfl rfl (by omega) (by omega))) ?_
                  refine HF.cons rfl (HOp.ro rfl (RO.build2 bd_69 rfl rfl rfl rfl)) ?_
                  refine HF.cons rfl (HOp.lit1 (c1 := [_, _]) sl_22 z_69 rfl rfl (lb rfl) (lb rfl) rfl rfl (by repeat' constructor) rfl (lb rfl)) ?_
                  refine HF.nil ?_
                  first | refine XL.op rfl (XO.appendApp sl_22 el_69 (lb rfl) rfl rfl rfl (by repeat' constructor) (by simp only [List.length_map, List.length_cons, List.length_nil, upV, List.length_take]; omega) (lb rfl)) ?_ | refine XL.op rfl (XO.appendNil sl_22 el_69 (lb rfl) rfl rfl (by repeat' constructor) (by simp only [List.length_map, List.length_cons, List.length_nil, upV, List.length_take]; omega) (lb rfl)) ?_
                  first | refine oR rfl rfl rfl (RO.fieldOwn fo_24_1 rfl) ?_ | refine oR rfl rfl rfl (RO.fieldPel fo_24_1 rfl) ?_
                  refine XL.op rfl (XO.store ag_22 rfl rfl rfl rfl (lb rfl) rfl) <| XL.nil <| XQ.inBlock <| XQ.seq <| XC.region <| oM rfl rfl ?_
                  refine XL.op rfl (XO.of_ro rfl (lb rfl) (RO.arith rfl rfl rfl (by omega) (by omega))) ?_
                  refine oA rfl rfl <| XL.nil ?_
                  refine XQ.next (k + 1) ?le ⟨by omega, ?_⟩ (by omega)
                  case le =>
                    try dsimp only
                    rw [upV_snoc n hx, List.map_append]
                    exact ⟨(by repeat' constructor), (by repeat' constructor), (by repeat (first | exact trivial | refine ⟨(by intro T h; first | (cases h; rfl) | cases h), ?_⟩)), (lb rfl), Nat.zero_le _, rfl, rfl, (by simp [tmBelow, TV.below, AV.below, CA.below]), (by simp [hpBelow, HB.below, CA.below]), (by simp [tkBelow]), (by simp)⟩
                  intro j y hj h
                  rcases Nat.lt_or_ge j k with h2 | h2
                  · exact hn j y h2 h
                  · obtain rfl : j = k := by omega
                    rw [hx] at h; cases h; dsimp only; omega
              ·
                replace c13 := prs c13
                have hkL : k = L.vs.length := by simp only [List.length_map] at c13; omega
                subst hkL
                rw [List.take_length]
                refine XC.exit <| XQ.thenE <| XQ.thenE <| XQ.blockX <| XQ.seq <| XC.seq <| XC.region ?_
                first | refine oR rfl rfl rfl (RO.loadOwnAgg ag_24 rfl rfl rfl rfl) ?_ | refine oR rfl rfl rfl (RO.loadPelAgg ag_24 rfl rfl rfl) ?_
                refine XL.op rfl (XO.store ag_24 rfl rfl rfl rfl (lb rfl) rfl) <| oA rfl rfl <| XL.nil <| XQ.seq <| XC.ret ?_
                refine XQ.ret2 (fun _ _ h => h) rfl (RA.cellAgg ag_24 rfl rfl rfl rfl) ?s0 (RA.tmp rfl) ?s1 rfl
                case s0 => (rw [plusL_ok hv (by omega) (by omega) hp2 (fun j x h => hn j x (List.getElem?_eq_some_iff.1 h).1 h)]); exact (by repeat' constructor)
                case s1 => (rw [plusL_ok hv (by omega) (by omega) hp2 (fun j x h => hn j x (List.getElem?_eq_some_iff.1 h).1 h)]); exact (by repeat' constructor)

set_option maxRecDepth 100000 in
set_option maxHeartbeats 4000000 in
theorem join_fun (A B : Lvl) (ha : A.vs.length ≤ 100000) (hb : B.vs.length ≤ 100000) : Fun Tryz.prog 51 [lvlA A, lvlA B] (.v (lvlA (joinL A B))) := by
  refine Fun.of_body 9 138 Tryz.func51 rfl en_51 rfl (lb rfl) (fun S w => ?_)
  simp only [entry]
  refine XC.seq <| XC.region <| XL.op rfl (XO.box rfl (lb rfl)) <| XL.op rfl (XO.box rfl (lb rfl)) <| XL.op rfl (XO.alloc z_24 rfl (lb rfl)) <| XL.nil <| XQ.seq <| XC.seq <| XC.region ?_
  first | refine oR rfl rfl rfl (RO.fieldOwn fo_24_0 rfl) ?_ | refine oR rfl rfl rfl (RO.fieldPel fo_24_0 rfl) ?_
  first | refine oR rfl rfl rfl (RO.loadOwn ag_3 rfl rfl rfl) ?_ | refine oR rfl rfl rfl (RO.loadPel ag_3 rfl rfl) ?_
  first | refine oR rfl rfl rfl (RO.fieldOwn fo_24_0 rfl) ?_ | refine oR rfl rfl rfl (RO.fieldPel fo_24_0 rfl) ?_
  first | refine oR rfl rfl rfl (RO.loadOwn ag_3 rfl rfl rfl) ?_ | refine oR rfl rfl rfl (RO.loadPel ag_3 rfl rfl) ?_
  refine oR rfl rfl rfl (RO.max2 rfl rfl) <| oR rfl rfl rfl (RO.build1 bd_24 rfl rfl rfl) <| XL.op rfl (XO.alloc z_24 rfl (lb rfl)) <| XL.op rfl (XO.store ag_24 rfl rfl rfl rfl (lb rfl) rfl) <| XL.nil <| XQ.seq <| XC.seq <| XC.region <| oA rfl rfl <| oA rfl rfl <| XL.nil <| XQ.seq <| XC.seq <| XC.region ?_
  refine oA rfl rfl <| XL.nil <| XQ.seq <| XC.seq <| XC.block <| XC.adoptC (i := 3) (off := 1) 69 2 rfl rfl ?_
  refine XC.loop (X := Nat × Nat × List LV) (fun p => ⟨[(2, .v (.one (.ptr 0 0))), (3, .v (.one (.ptr 1 0))), (4, .v (.one (.ptr 2 0))), (5, .v (.one (.ptr 3 0))), (6, TI p.1), (7, TI p.2.1), (8, TI (topOf 0 p.2.2))], [(0, .cells 24 [.d (.v (.int .i64 A.c)), .d (vsC A.vs)]), (1, .cells 24 [.d (.v (.int .i64 B.c)), .d (vsC B.vs)]), (2, .cells 24 [.d (.v (.int .i64 0)), .d (.v (.slice none 0 0))]), (3, .cells 24 [.d (.v (.int .i64 (max A.c B.c))), .app 4 2 (p.2.2.map lvC)])], [(4, some ⟨69, 2, (p.2.2.map lvC).length⟩)], 5, 138, []⟩) (fun p => p.1 ≤ A.vs.length ∧ p.2.1 ≤ B.vs.length ∧ p.2.2.length ≤ p.1 + p.2.1 ∧ p.2.2 ++ mergeV (A.vs.drop p.1) (B.vs.drop p.2.1) = mergeV A.vs B.vs) (fun p => (A.vs.length - p.1) + (B.vs.length - p.2.1)) (0, 0, []) ⟨(by repeat' constructor), (by repeat' constructor), (by repeat (first | exact trivial | refine ⟨(by intro T h; first | (cases h; rfl) | cases h), ?_⟩)), (lb rfl), Nat.zero_le _, rfl, rfl, (by simp [tmBelow, TV.below, AV.below, CA.below]), (by simp [hpBelow, HB.below, CA.below]), (by simp [tkBelow]), (by simp)⟩ ⟨Nat.zero_le _, Nat.zero_le _, Nat.zero_le _, rfl⟩ ?_
  rintro ⟨i, k, out⟩ ⟨hi, hk, hol, hout⟩
  try dsimp only
  dsimp only at hi hk hol hout
  refine XC.seq <| XC.seq <| XC.region <| oM rfl rfl ?_
  first | refine oR rfl rfl rfl (RO.fieldOwn fo_24_1 rfl) ?_ | refine oR rfl rfl rfl (RO.fieldPel fo_24_1 rfl) ?_
  first | refine oR rfl rfl rfl (RO.loadOwn ag_22 rfl rfl rfl) ?_ | refine oR rfl rfl rfl (RO.loadPel ag_22 rfl rfl) ?_
  refine XL.op rfl (XO.of_ro rfl (lb rfl) (RO.len sl_22 rfl (by repeat' constructor))) ?_
  refine oR rfl rfl rfl (RO.cmp rfl rfl rfl) <| oM rfl rfl ?_
  refine XL.case (d := 21) rfl (fun c1 => ?_) (fun c1 => ?_)
  ·
    replace c1 := prs c1
    simp only [List.length_map] at c1
    have hiA : i < A.vs.length := by omega
    obtain ⟨⟨x1, x2⟩, hx⟩ : ∃ x, A.vs[i]? = some x := ⟨_, List.getElem?_eq_getElem (by omega)⟩
    refine XL.offB rfl rfl rfl rfl <| XL.offB rfl rfl rfl rfl <| XL.offB rfl rfl rfl rfl <| XL.offB rfl rfl rfl rfl <| XL.offB rfl rfl rfl rfl <| oR rfl rfl rfl (RO.pickT rfl rfl) <| XL.nil <| XQ.seq ?_
    refine XC.cond rfl (fun _ => ?_) (fun h => nomatch h)
    refine XC.skip <| XQ.seq <| XC.block <| XC.seq <| XC.region <| XL.op rfl (XO.of_ro rfl (lb rfl) (RO.build0 bd_69 rfl )) <| XL.op rfl (XO.alloc z_69 rfl (lb rfl)) <| XL.op rfl (XO.store ag_69 rfl rfl rfl rfl (lb rfl) rfl) <| XL.nil <| XQ.seq <| XC.seq <| XC.block <| XC.seq ?_
    refine XC.draw mixed (by kernel_rfl) ?_
    refine XS.op rfl rfl (lb rfl) (RO.move rfl) ?_
    first | refine XS.op rfl rfl (lb rfl) (RO.fieldOwn fo_24_1 rfl) ?_ | refine XS.op rfl rfl (lb rfl) (RO.fieldPel fo_24_1 rfl) ?_
    first | refine XS.op rfl rfl (lb rfl) (RO.loadOwn ag_22 rfl rfl rfl) ?_ | refine XS.op rfl rfl (lb rfl) (RO.loadPel ag_22 rfl rfl) ?_
    refine XS.op rfl rfl (lb rfl) (RO.len sl_22 rfl (by repeat' constructor)) ?_
    refine XS.op rfl rfl (lb rfl) (RO.cmp rfl rfl rfl) <| XS.op rfl rfl (lb rfl) (RO.move rfl) ?_
    refine XS.case (d := 59) rfl (fun c2 => ?_) (fun c2 => ?_)
    ·
      replace c2 := prs c2
      simp only [List.length_map] at c2
      refine XS.offB rfl rfl rfl rfl <| XS.offB rfl rfl rfl rfl <| XS.offB rfl rfl rfl rfl <| XS.offB rfl rfl rfl rfl <| XS.offB rfl rfl rfl rfl <| XS.offB rfl rfl rfl rfl <| XS.offU rfl rfl rfl rfl <| XS.offU rfl rfl rfl rfl <| XS.offU rfl rfl rfl rfl <| XS.offU rfl rfl rfl rfl <| XS.offU rfl rfl rfl rfl <| XS.offU rfl rfl rfl rfl <| XS.offU rfl rfl rfl rfl <| XS.offU rfl rfl rfl rfl ?_
      refine XS.offU rfl rfl rfl rfl <| XS.offU rfl rfl rfl rfl <| XS.offU rfl rfl rfl rfl <| XS.offU rfl rfl rfl rfl <| XS.offU rfl rfl rfl rfl <| XS.offB rfl rfl rfl rfl <| XS.op rfl rfl (lb rfl) (RO.pickT rfl rfl) <| XS.op rfl rfl (lb rfl) (RO.assign rfl) <| XS.nil <| XQ.seq ?_
      refine XC.cond rfl (fun _ => ?_) (fun h => nomatch h)
      refine XC.seq <| XC.region ?_
      first | refine oR rfl rfl rfl (RO.fieldOwn fo_24_1 rfl) ?_ | refine oR rfl rfl rfl (RO.fieldPel fo_24_1 rfl) ?_
      first | refine oR rfl rfl rfl (RO.loadOwn ag_22 rfl rfl rfl) ?_ | refine oR rfl rfl rfl (RO.loadPel ag_22 rfl rfl) ?_
      refine oM rfl rfl ?_
      refine XL.op rfl (XO.of_ro rfl (lb rfl) (RO.index sl_22 rfl (by repeat' constructor) rfl rfl (map_get hx))) ?_
      first | refine oR rfl rfl rfl (RO.loadOwnAgg ag_69 rfl rfl rfl rfl) ?_ | refine oR rfl rfl rfl (RO.loadPelAgg ag_69 rfl rfl rfl) ?_
      refine XL.op rfl (XO.store ag_69 rfl rfl rfl rfl (lb rfl) rfl) <| XL.nil <| XQ.seq <| XC.region <| oM rfl rfl ?_
      refine XL.op rfl (XO.of_ro rfl (lb rfl) (RO.arith rfl rfl rfl (by omega) (by omega))) ?_
      refine oA rfl rfl <| XL.nil <| XQ.inBlock <| XQ.seq <| XC.seq <| XC.region <| oM rfl rfl ?_
      first | refine oR rfl rfl rfl (RO.fieldOwn fo_69_1 rfl) ?_ | refine oR rfl rfl rfl (RO.fieldPel fo_69_1 rfl) ?_
      first | refine oR rfl rfl rfl (RO.loadOwn ag_3 rfl rfl rfl) ?_ | refine oR rfl rfl rfl (RO.loadPel ag_3 rfl rfl) ?_
      refine oR rfl rfl rfl (RO.max2 rfl rfl) <| oA rfl rfl <| XL.nil <| XQ.seq <| XC.region ?_
      first | refine oR rfl rfl rfl (RO.fieldOwn fo_24_1 rfl) ?_ | refine oR rfl rfl rfl (RO.fieldPel fo_24_1 rfl) ?_
      first | refine oR rfl rfl rfl (RO.loadOwn ag_22 rfl rfl rfl) ?_ | refine oR rfl rfl rfl (RO.loadPel ag_22 rfl rfl) ?_
      first | refine oR rfl rfl rfl (RO.loadOwnAgg ag_69 rfl rfl rfl rfl) ?_ | refine oR rfl rfl rfl (RO.loadPelAgg ag_69 rfl rfl rfl) ?_
      refine XL.op rfl (XO.lit1 (c1 := [_, _]) sl_22 z_69 rfl rfl (lb rfl) (lb rfl) rfl rfl (by repeat' constructor) rfl (lb rfl)) ?_
      first | refine XL.op rfl (XO.appendApp sl_22 el_69 (lb rfl) rfl rfl rfl (by repeat' constructor) (by simp only [List.length_map, List.length_append, List.length_cons, List.length_nil]; omega) (lb rfl)) ?_ | refine XL.op rfl (XO.appendNil sl_22 el_69 (lb rfl) rfl rfl (by repeat' constructor) (by simp only [List.length_map, List.length_append, List.length_cons, List.length_nil]; omega) (lb rfl)) ?_
      first | refine oR rfl rfl rfl (RO.fieldOwn fo_24_1 rfl) ?_ | refine oR rfl rfl rfl (RO.fieldPel fo_24_1 rfl) ?_
      refine XL.op rfl (XO.store ag_22 rfl rfl rfl rfl (lb rfl) rfl) <| XL.nil <| XQ.inBlock ?_
      refine XQ.next (i + 1, k, out ++ [(x1, x2)]) ?le ?okk (by dsimp only; omega)
      case le =>
        try dsimp only
        simp only [topOf_snoc, List.map_append]
        exact ⟨(by repeat' constructor), (by repeat' constructor), (by repeat (first | exact trivial | refine ⟨(by intro T h; first | (cases h; rfl) | cases h), ?_⟩)), (lb rfl), Nat.zero_le _, rfl, rfl, (by simp [tmBelow, TV.below, AV.below, CA.below]), (by simp [hpBelow, HB.below, CA.below]), (by simp [tkBelow]), (by simp)⟩
      case okk =>
        dsimp only
        have hmm : mergeV (A.vs.drop i) (B.vs.drop k) = (x1, x2) :: mergeV (A.vs.drop (i + 1)) (B.vs.drop k) := by first | exact merge_a hx (by omega) | exact merge_lt hx hy (by dsimp only; omega)
        refine ⟨by omega, by omega, by simp only [List.length_append, List.length_cons, List.length_nil]; omega, ?_⟩
        rw [← hout, hmm, List.append_assoc]; rfl
    ·
      replace c2 := prs c2
      simp only [List.length_map] at c2
      have hkB : k < B.vs.length := by omega
      obtain ⟨⟨y1, y2⟩, hy⟩ : ∃ x, B.vs[k]? = some x := ⟨_, List.getElem?_eq_getElem (by omega)⟩
      refine XS.on rfl rfl rfl rfl (lb rfl) (RO.move rfl) ?_
      first | refine XS.on rfl rfl rfl rfl (lb rfl) (RO.fieldOwn fo_24_1 rfl) ?_ | refine XS.on rfl rfl rfl rfl (lb rfl) (RO.fieldPel fo_24_1 rfl) ?_
      first | refine XS.on rfl rfl rfl rfl (lb rfl) (RO.loadOwn ag_22 rfl rfl rfl) ?_ | refine XS.on rfl rfl rfl rfl (lb rfl) (RO.loadPel ag_22 rfl rfl) ?_
      refine XS.on rfl rfl rfl rfl (lb rfl) (RO.len sl_22 rfl (by repeat' constructor)) ?_
      refine XS.on rfl rfl rfl rfl (lb rfl) (RO.cmp rfl rfl rfl) <| XS.on rfl rfl rfl rfl (lb rfl) (RO.move rfl) ?_
      refine XS.case (d := 65) rfl (fun c3 => ?_) (fun c3 => ?_)
      ·
        replace c3 := prs c3
        simp only [List.length_map] at c3
        first | refine XS.on rfl rfl rfl rfl (lb rfl) (RO.fieldOwn fo_24_1 rfl) ?_ | refine XS.on rfl rfl rfl rfl (lb rfl) (RO.fieldPel fo_24_1 rfl) ?_
        first | refine XS.on rfl rfl rfl rfl (lb rfl) (RO.loadOwn ag_22 rfl rfl rfl) ?_ | refine XS.on rfl rfl rfl rfl (lb rfl) (RO.loadPel ag_22 rfl rfl) ?_
        refine XS.on rfl rfl rfl rfl (lb rfl) (RO.move rfl) ?_
        refine XS.on rfl rfl rfl rfl (lb rfl) (RO.index sl_22 rfl (by repeat' constructor) rfl rfl (map_get hx)) ?_
        first | refine XS.on rfl rfl rfl rfl (lb rfl) (RO.fieldOwn fo_69_0 rfl) ?_ | refine XS.on rfl rfl rfl rfl (lb rfl) (RO.fieldPel fo_69_0 rfl) ?_
        first | refine XS.on rfl rfl rfl rfl (lb rfl) (RO.loadOwn ag_3 rfl rfl rfl) ?_ | refine XS.on rfl rfl rfl rfl (lb rfl) (RO.loadPel ag_3 rfl rfl) ?_
        first | refine XS.on rfl rfl rfl rfl (lb rfl) (RO.fieldOwn fo_24_1 rfl) ?_ | refine XS.on rfl rfl rfl rfl (lb rfl) (RO.fieldPel fo_24_1 rfl) ?_
        first | refine XS.on rfl rfl rfl rfl (lb rfl) (RO.loadOwn ag_22 rfl rfl rfl) ?_ | refine XS.on rfl rfl rfl rfl (lb rfl) (RO.loadPel ag_22 rfl rfl) ?_
        refine XS.on rfl rfl rfl rfl (lb rfl) (RO.move rfl) ?_
        refine XS.on rfl rfl rfl rfl (lb rfl) (RO.index sl_22 rfl (by repeat' constructor) rfl rfl (map_get hy)) ?_
        first | refine XS.on rfl rfl rfl rfl (lb rfl) (RO.fieldOwn fo_69_0 rfl) ?_ | refine XS.on rfl rfl rfl rfl (lb rfl) (RO.fieldPel fo_69_0 rfl) ?_
        first | refine XS.on rfl rfl rfl rfl (lb rfl) (RO.loadOwn ag_3 rfl rfl rfl) ?_ | refine XS.on rfl rfl rfl rfl (lb rfl) (RO.loadPel ag_3 rfl rfl) ?_
        refine XS.on rfl rfl rfl rfl (lb rfl) (RO.cmp rfl rfl rfl) <| XS.on rfl rfl rfl rfl (lb rfl) (RO.pickT rfl rfl) <| XS.op rfl rfl (lb rfl) (RO.pickF rfl rfl) <| XS.op rfl rfl (lb rfl) (RO.assign rfl) <| XS.nil <| XQ.seq ?_
        refine XC.cond rfl (fun c4 => ?_) (fun c4 => ?_)
        ·
          replace c4 := prs c4
          refine XC.seq <| XC.region ?_
          first | refine oR rfl rfl rfl (RO.fieldOwn fo_24_1 rfl) ?_ | refine oR rfl rfl rfl (RO.fieldPel fo_24_1 rfl) ?_
          first | refine oR rfl rfl rfl (RO.loadOwn ag_22 rfl rfl rfl) ?_ | refine oR rfl rfl rfl (RO.loadPel ag_22 rfl rfl) ?_
          refine oM rfl rfl ?_
          refine XL.op rfl (XO.of_ro rfl (lb rfl) (RO.index sl_22 rfl (by repeat' constructor) rfl rfl (map_get hx))) ?_
          first | refine oR rfl rfl rfl (RO.loadOwnAgg ag_69 rfl rfl rfl rfl) ?_ | refine oR rfl rfl rfl (RO.loadPelAgg ag_69 rfl rfl rfl) ?_
          refine XL.op rfl (XO.store ag_69 rfl rfl rfl rfl (lb rfl) rfl) <| XL.nil <| XQ.seq <| XC.region <| oM rfl rfl ?_
          refine XL.op rfl (XO.of_ro rfl (lb rfl) (RO.arith rfl rfl rfl (by omega) (by omega))) ?_
          refine oA rfl rfl <| XL.nil <| XQ.inBlock <| XQ.seq <| XC.seq <| XC.region <| oM rfl rfl ?_
          first | refine oR rfl rfl rfl (RO.fieldOwn fo_69_1 rfl) ?_ | refine oR rfl rfl rfl (RO.fieldPel fo_69_1 rfl) ?_
          first | refine oR rfl rfl rfl (RO.loadOwn ag_3 rfl rfl rfl) ?_ | refine oR rfl rfl rfl (RO.loadPel ag_3 rfl rfl) ?_
          refine oR rfl rfl rfl (RO.max2 rfl rfl) <| oA rfl rfl <| XL.nil <| XQ.seq <| XC.region ?_
          first | refine oR rfl rfl rfl (RO.fieldOwn fo_24_1 rfl) ?_ | refine oR rfl rfl rfl (RO.fieldPel fo_24_1 rfl) ?_
          first | refine oR rfl rfl rfl (RO.loadOwn ag_22 rfl rfl rfl) ?_ | refine oR rfl rfl rfl (RO.loadPel ag_22 rfl rfl) ?_
          first | refine oR rfl rfl rfl (RO.loadOwnAgg ag_69 rfl rfl rfl rfl) ?_ | refine oR rfl rfl rfl (RO.loadPelAgg ag_69 rfl rfl rfl) ?_
          refine XL.op rfl (XO.lit1 (c1 := [_, _]) sl_22 z_69 rfl rfl (lb rfl) (lb rfl) rfl rfl (by repeat' constructor) rfl (lb rfl)) ?_
          first | refine XL.op rfl (XO.appendApp sl_22 el_69 (lb rfl) rfl rfl rfl (by repeat' constructor) (by simp only [List.length_map, List.length_append, List.length_cons, List.length_nil]; omega) (lb rfl)) ?_ | refine XL.op rfl (XO.appendNil sl_22 el_69 (lb rfl) rfl rfl (by repeat' constructor) (by simp only [List.length_map, List.length_append, List.length_cons, List.length_nil]; omega) (lb rfl)) ?_
          first | refine oR rfl rfl rfl (RO.fieldOwn fo_24_1 rfl) ?_ | refine oR rfl rfl rfl (RO.fieldPel fo_24_1 rfl) ?_
          refine XL.op rfl (XO.store ag_22 rfl rfl rfl rfl (lb rfl) rfl) <| XL.nil <| XQ.inBlock ?_
          refine XQ.next (i + 1, k, out ++ [(x1, x2)]) ?le ?okk (by dsimp only; omega)
          case le =>
            try dsimp only
            simp only [topOf_snoc, List.map_append]
            exact ⟨(by repeat' constructor), (by repeat' constructor), (by repeat (first | exact trivial | refine ⟨(by intro T h; first | (cases h; rfl) | cases h), ?_⟩)), (lb rfl), Nat.zero_le _, rfl, rfl, (by simp [tmBelow, TV.below, AV.below, CA.below]), (by simp [hpBelow, HB.below, CA.below]), (by simp [tkBelow]), (by simp)⟩
          case okk =>
            dsimp only
            have hmm : mergeV (A.vs.drop i) (B.vs.drop k) = (x1, x2) :: mergeV (A.vs.drop (i + 1)) (B.vs.drop k) := by first | exact merge_a hx (by omega) | exact merge_lt hx hy (by dsimp only; omega)
            refine ⟨by omega, by omega, by simp only [List.length_append, List.length_cons, List.length_nil]; omega, ?_⟩
            rw [← hout, hmm, List.append_assoc]; rfl
        ·
          replace c4 := prs c4
          refine XC.seq ?_
          refine XC.draw mixed (by kernel_rfl) ?_
          refine XS.op rfl rfl (lb rfl) (RO.move rfl) ?_
          first | refine XS.op rfl rfl (lb rfl) (RO.fieldOwn fo_24_1 rfl) ?_ | refine XS.op rfl rfl (lb rfl) (RO.fieldPel fo_24_1 rfl) ?_
          first | refine XS.op rfl rfl (lb rfl) (RO.loadOwn ag_22 rfl rfl rfl) ?_ | refine XS.op rfl rfl (lb rfl) (RO.loadPel ag_22 rfl rfl) ?_
          refine XS.op rfl rfl (lb rfl) (RO.len sl_22 rfl (by repeat' constructor)) ?_
          refine XS.op rfl rfl (lb rfl) (RO.cmp rfl rfl rfl) <| XS.op rfl rfl (lb rfl) (RO.move rfl) ?_
          refine XS.case (d := 94) rfl (fun c5 => ?_) (fun c5 => ?_)
          ·
            replace c5 := prs c5
            simp only [List.length_map] at c5
            exfalso; omega
          ·
            replace c5 := prs c5
            simp only [List.length_map] at c5
            first | refine XS.on rfl rfl rfl rfl (lb rfl) (RO.fieldOwn fo_24_1 rfl) ?_ | refine XS.on rfl rfl rfl rfl (lb rfl) (RO.fieldPel fo_24_1 rfl) ?_
            first | refine XS.on rfl rfl rfl rfl (lb rfl) (RO.loadOwn ag_22 rfl rfl rfl) ?_ | refine XS.on rfl rfl rfl rfl (lb rfl) (RO.loadPel ag_22 rfl rfl) ?_
            refine XS.on rfl rfl rfl rfl (lb rfl) (RO.move rfl) ?_
            refine XS.on rfl rfl rfl rfl (lb rfl) (RO.index sl_22 rfl (by repeat' constructor) rfl rfl (map_get hy)) ?_
            first | refine XS.on rfl rfl rfl rfl (lb rfl) (RO.fieldOwn fo_69_0 rfl) ?_ | refine XS.on rfl rfl rfl rfl (lb rfl) (RO.fieldPel fo_69_0 rfl) ?_
            first | refine XS.on rfl rfl rfl rfl (lb rfl) (RO.loadOwn ag_3 rfl rfl rfl) ?_ | refine XS.on rfl rfl rfl rfl (lb rfl) (RO.loadPel ag_3 rfl rfl) ?_
            first | refine XS.on rfl rfl rfl rfl (lb rfl) (RO.fieldOwn fo_24_1 rfl) ?_ | refine XS.on rfl rfl rfl rfl (lb rfl) (RO.fieldPel fo_24_1 rfl) ?_
            first | refine XS.on rfl rfl rfl rfl (lb rfl) (RO.loadOwn ag_22 rfl rfl rfl) ?_ | refine XS.on rfl rfl rfl rfl (lb rfl) (RO.loadPel ag_22 rfl rfl) ?_
            refine XS.on rfl rfl rfl rfl (lb rfl) (RO.move rfl) ?_
            refine XS.on rfl rfl rfl rfl (lb rfl) (RO.index sl_22 rfl (by repeat' constructor) rfl rfl (map_get hx)) ?_
            first | refine XS.on rfl rfl rfl rfl (lb rfl) (RO.fieldOwn fo_69_0 rfl) ?_ | refine XS.on rfl rfl rfl rfl (lb rfl) (RO.fieldPel fo_69_0 rfl) ?_
            first | refine XS.on rfl rfl rfl rfl (lb rfl) (RO.loadOwn ag_3 rfl rfl rfl) ?_ | refine XS.on rfl rfl rfl rfl (lb rfl) (RO.loadPel ag_3 rfl rfl) ?_
            refine XS.on rfl rfl rfl rfl (lb rfl) (RO.cmp rfl rfl rfl) <| XS.op rfl rfl (lb rfl) (RO.pickF rfl rfl) <| XS.op rfl rfl (lb rfl) (RO.assign rfl) <| XS.nil <| XQ.seq ?_
            refine XC.cond rfl (fun c6 => ?_) (fun c6 => ?_)
            ·
              replace c6 := prs c6
              refine XC.seq <| XC.region ?_
              first | refine oR rfl rfl rfl (RO.fieldOwn fo_24_1 rfl) ?_ | refine oR rfl rfl rfl (RO.fieldPel fo_24_1 rfl) ?_
              first | refine oR rfl rfl rfl (RO.loadOwn ag_22 rfl rfl rfl) ?_ | refine oR rfl rfl rfl (RO.loadPel ag_22 rfl rfl) ?_
              refine oM rfl rfl ?_
              refine XL.op rfl (XO.of_ro rfl (lb rfl) (RO.index sl_22 rfl (by repeat' constructor) rfl rfl (map_get hy))) ?_
              first | refine oR rfl rfl rfl (RO.loadOwnAgg ag_69 rfl rfl rfl rfl) ?_ | refine oR rfl rfl rfl (RO.loadPelAgg ag_69 rfl rfl rfl) ?_
              refine XL.op rfl (XO.store ag_69 rfl rfl rfl rfl (lb rfl) rfl) <| XL.nil <| XQ.seq <| XC.region <| oM rfl rfl ?_
              refine XL.op rfl (XO.of_ro rfl (lb rfl) (RO.arith rfl rfl rfl (by omega) (by omega))) ?_
              refine oA rfl rfl <| XL.nil <| XQ.inBlock <| XQ.seq <| XC.seq <| XC.region <| oM rfl rfl ?_
              first | refine oR rfl rfl rfl (RO.fieldOwn fo_69_1 rfl) ?_ | refine oR rfl rfl rfl (RO.fieldPel fo_69_1 rfl) ?_
              first | refine oR rfl rfl rfl (RO.loadOwn ag_3 rfl rfl rfl) ?_ | refine oR rfl rfl rfl (RO.loadPel ag_3 rfl rfl) ?_
              refine oR rfl rfl rfl (RO.max2 rfl rfl) <| oA rfl rfl <| XL.nil <| XQ.seq <| XC.region ?_
              first | refine oR rfl rfl rfl (RO.fieldOwn fo_24_1 rfl) ?_ | refine oR rfl rfl rfl (RO.fieldPel fo_24_1 rfl) ?_
              first | refine oR rfl rfl rfl (RO.loadOwn ag_22 rfl rfl rfl) ?_ | refine oR rfl rfl rfl (RO.loadPel ag_22 rfl rfl) ?_
              first | refine oR rfl rfl rfl (RO.loadOwnAgg ag_69 rfl rfl rfl rfl) ?_ | refine oR rfl rfl rfl (RO.loadPelAgg ag_69 rfl rfl rfl) ?_
              refine XL.op rfl (XO.lit1 (c1 := [_, _]) sl_22 z_69 rfl rfl (lb rfl) (lb rfl) rfl rfl (by repeat' constructor) rfl (lb rfl)) ?_
              first | refine XL.op rfl (XO.appendApp sl_22 el_69 (lb rfl) rfl rfl rfl (by repeat' constructor) (by simp only [List.length_map, List.length_append, List.length_cons, List.length_nil]; omega) (lb rfl)) ?_ | refine XL.op rfl (XO.appendNil sl_22 el_69 (lb rfl) rfl rfl (by repeat' constructor) (by simp only [List.length_map, List.length_append, List.length_cons, List.length_nil]; omega) (lb rfl)) ?_
              first | refine oR rfl rfl rfl (RO.fieldOwn fo_24_1 rfl) ?_ | refine oR rfl rfl rfl (RO.fieldPel fo_24_1 rfl) ?_
              refine XL.op rfl (XO.store ag_22 rfl rfl rfl rfl (lb rfl) rfl) <| XL.nil <| XQ.inBlock ?_
              refine XQ.next (i, k + 1, out ++ [(y1, y2)]) ?le ?okk (by dsimp only; omega)
              case le =>
                try dsimp only
                simp only [topOf_snoc, List.map_append]
                exact ⟨(by repeat' constructor), (by repeat' constructor), (by repeat (first | exact trivial | refine ⟨(by intro T h; first | (cases h; rfl) | cases h), ?_⟩)), (lb rfl), Nat.zero_le _, rfl, rfl, (by simp [tmBelow, TV.below, AV.below, CA.below]), (by simp [hpBelow, HB.below, CA.below]), (by simp [tkBelow]), (by simp)⟩
              case okk =>
                dsimp only
                have hmm : mergeV (A.vs.drop i) (B.vs.drop k) = (y1, y2) :: mergeV (A.vs.drop i) (B.vs.drop (k + 1)) := by first | exact merge_b (by omega) hy | exact merge_gt hx hy (by dsimp only; omega)
                refine ⟨by omega, by omega, by simp only [List.length_append, List.length_cons, List.length_nil]; omega, ?_⟩
                rw [← hout, hmm, List.append_assoc]; rfl
            ·
              replace c6 := prs c6
              refine XC.seq ?_
              refine XC.drawTail 20 mixed (by kernel_rfl) ?_
              simp only [List.take, List.drop]
              first | refine XS.op rfl rfl (lb rfl) (RO.fieldOwn fo_24_1 rfl) ?_ | refine XS.op rfl rfl (lb rfl) (RO.fieldPel fo_24_1 rfl) ?_
              first | refine XS.op rfl rfl (lb rfl) (RO.loadOwn ag_22 rfl rfl rfl) ?_ | refine XS.op rfl rfl (lb rfl) (RO.loadPel ag_22 rfl rfl) ?_
              refine XS.op rfl rfl (lb rfl) (RO.move rfl) ?_
              refine XS.op rfl rfl (lb rfl) (RO.index sl_22 rfl (by repeat' constructor) rfl rfl (map_get hx)) ?_
              first | refine XS.op rfl rfl (lb rfl) (RO.fieldOwn fo_69_0 rfl) ?_ | refine XS.op rfl rfl (lb rfl) (RO.fieldPel fo_69_0 rfl) ?_
              first | refine XS.op rfl rfl (lb rfl) (RO.loadOwn ag_3 rfl rfl rfl) ?_ | refine XS.op rfl rfl (lb rfl) (RO.loadPel ag_3 rfl rfl) ?_
              first | refine XS.op rfl rfl (lb rfl) (RO.fieldOwn fo_24_1 rfl) ?_ | refine XS.op rfl rfl (lb rfl) (RO.fieldPel fo_24_1 rfl) ?_
              first | refine XS.op rfl rfl (lb rfl) (RO.loadOwn ag_22 rfl rfl rfl) ?_ | refine XS.op rfl rfl (lb rfl) (RO.loadPel ag_22 rfl rfl) ?_
              refine XS.op rfl rfl (lb rfl) (RO.move rfl) ?_
              refine XS.op rfl rfl (lb rfl) (RO.index sl_22 rfl (by repeat' constructor) rfl rfl (map_get hx)) ?_
              first | refine XS.op rfl rfl (lb rfl) (RO.fieldOwn fo_69_1 rfl) ?_ | refine XS.op rfl rfl (lb rfl) (RO.fieldPel fo_69_1 rfl) ?_
              first | refine XS.op rfl rfl (lb rfl) (RO.loadOwn ag_3 rfl rfl rfl) ?_ | refine XS.op rfl rfl (lb rfl) (RO.loadPel ag_3 rfl rfl) ?_
              first | refine XS.op rfl rfl (lb rfl) (RO.fieldOwn fo_24_1 rfl) ?_ | refine XS.op rfl rfl (lb rfl) (RO.fieldPel fo_24_1 rfl) ?_
              first | refine XS.op rfl rfl (lb rfl) (RO.loadOwn ag_22 rfl rfl rfl) ?_ | refine XS.op rfl rfl (lb rfl) (RO.loadPel ag_22 rfl rfl) ?_
              refine XS.op rfl rfl (lb rfl) (RO.move rfl) ?_
              refine XS.op rfl rfl (lb rfl) (RO.index sl_22 rfl (by repeat' constructor) rfl rfl (map_get hy)) ?_
              first | refine XS.op rfl rfl (lb rfl) (RO.fieldOwn fo_69_1 rfl) ?_ | refine XS.op rfl rfl (lb rfl) (RO.fieldPel fo_69_1 rfl) ?_
              first | refine XS.op rfl rfl (lb rfl) (RO.loadOwn ag_3 rfl rfl rfl) ?_ | refine XS.op rfl rfl (lb rfl) (RO.loadPel ag_3 rfl rfl) ?_
              refine XS.op rfl rfl (lb rfl) (RO.max2 rfl rfl) <| XS.op rfl rfl (lb rfl) (RO.build2 bd_69 rfl rfl rfl rfl) <| XS.tail <| XL.op rfl (XO.store ag_69 rfl rfl rfl rfl (lb rfl) rfl) <| XL.nil <| XQ.seq <| XC.seq <| XC.region <| oM rfl rfl ?_
              refine XL.op rfl (XO.of_ro rfl (lb rfl) (RO.arith rfl rfl rfl (by omega) (by omega))) ?_
              refine oA rfl rfl <| XL.nil <| XQ.seq <| XC.region <| oM rfl rfl ?_
              refine XL.op rfl (XO.of_ro rfl (lb rfl) (RO.arith rfl rfl rfl (by omega) (by omega))) ?_
              refine oA rfl rfl <| XL.nil <| XQ.inBlock <| XQ.seq <| XC.seq <| XC.region <| oM rfl rfl ?_
              first | refine oR rfl rfl rfl (RO.fieldOwn fo_69_1 rfl) ?_ | refine oR rfl rfl rfl (RO.fieldPel fo_69_1 rfl) ?_
              first | refine oR rfl rfl rfl (RO.loadOwn ag_3 rfl rfl rfl) ?_ | refine oR rfl rfl rfl (RO.loadPel ag_3 rfl rfl) ?_
              refine oR rfl rfl rfl (RO.max2 rfl rfl) <| oA rfl rfl <| XL.nil <| XQ.seq <| XC.region ?_
              first | refine oR rfl rfl rfl (RO.fieldOwn fo_24_1 rfl) ?_ | refine oR rfl rfl rfl (RO.fieldPel fo_24_1 rfl) ?_
              first | refine oR rfl rfl rfl (RO.loadOwn ag_22 rfl rfl rfl) ?_ | refine oR rfl rfl rfl (RO.loadPel ag_22 rfl rfl) ?_
              first | refine oR rfl rfl rfl (RO.loadOwnAgg ag_69 rfl rfl rfl rfl) ?_ | refine oR rfl rfl rfl (RO.loadPelAgg ag_69 rfl rfl rfl) ?_
              refine XL.op rfl (XO.lit1 (c1 := [_, _]) sl_22 z_69 rfl rfl (lb rfl) (lb rfl) rfl rfl (by repeat' constructor) rfl (lb rfl)) ?_
              first | refine XL.op rfl (XO.appendApp sl_22 el_69 (lb rfl) rfl rfl rfl (by repeat' constructor) (by simp only [List.length_map, List.length_append, List.length_cons, List.length_nil]; omega) (lb rfl)) ?_ | refine XL.op rfl (XO.appendNil sl_22 el_69 (lb rfl) rfl rfl (by repeat' constructor) (by simp only [List.length_map, List.length_append, List.length_cons, List.length_nil]; omega) (lb rfl)) ?_
              first | refine oR rfl rfl rfl (RO.fieldOwn fo_24_1 rfl) ?_ | refine oR rfl rfl rfl (RO.fieldPel fo_24_1 rfl) ?_
              refine XL.op rfl (XO.store ag_22 rfl rfl rfl rfl (lb rfl) rfl) <| XL.nil <| XQ.inBlock ?_
              refine XQ.next (i + 1, k + 1, out ++ [(x1, max x2 y2)]) ?le ?okk (by dsimp only; omega)
              case le =>
                try dsimp only
                simp only [topOf_snoc, List.map_append]
                exact ⟨(by repeat' constructor), (by repeat' constructor), (by repeat (first | exact trivial | refine ⟨(by intro T h; first | (cases h; rfl) | cases h), ?_⟩)), (lb rfl), Nat.zero_le _, rfl, rfl, (by simp [tmBelow, TV.below, AV.below, CA.below]), (by simp [hpBelow, HB.below, CA.below]), (by simp [tkBelow]), (by simp)⟩
              case okk =>
                dsimp only
                have hmm : mergeV (A.vs.drop i) (B.vs.drop k) = (x1, max x2 y2) :: mergeV (A.vs.drop (i + 1)) (B.vs.drop (k + 1)) := by exact merge_eq hx hy (by dsimp only; omega)
                refine ⟨by omega, by omega, by simp only [List.length_append, List.length_cons, List.length_nil]; omega, ?_⟩
                rw [← hout, hmm, List.append_assoc]; rfl
      ·
        replace c3 := prs c3
        simp only [List.length_map] at c3
        exfalso; omega
  ·
    replace c1 := prs c1
    simp only [List.length_map] at c1
    have hiA : A.vs.length ≤ i := by omega
    refine nR rfl rfl rfl rfl rfl (RO.move rfl) ?_
    first | refine nR rfl rfl rfl rfl rfl (RO.fieldOwn fo_24_1 rfl) ?_ | refine nR rfl rfl rfl rfl rfl (RO.fieldPel fo_24_1 rfl) ?_
    first | refine nR rfl rfl rfl rfl rfl (RO.loadOwn ag_22 rfl rfl rfl) ?_ | refine nR rfl rfl rfl rfl rfl (RO.loadPel ag_22 rfl rfl) ?_
    refine XL.on rfl rfl rfl (XO.of_ro rfl (lb rfl) (RO.len sl_22 rfl (by repeat' constructor))) ?_
    refine nR rfl rfl rfl rfl rfl (RO.cmp rfl rfl rfl) <| oR rfl rfl rfl (RO.pickF rfl rfl) <| XL.nil <| XQ.seq ?_
    refine XC.cond rfl (fun c7 => ?_) (fun c7 => ?_)
    ·
      replace c7 := prs c7
      simp only [List.length_map] at c7
      have hkB : k < B.vs.length := by omega
      obtain ⟨⟨y1, y2⟩, hy⟩ : ∃ x, B.vs[k]? = some x := ⟨_, List.getElem?_eq_getElem (by omega)⟩
      refine XC.skip <| XQ.seq <| XC.block <| XC.seq <| XC.region <| XL.op rfl (XO.of_ro rfl (lb rfl) (RO.build0 bd_69 rfl )) <| XL.op rfl (XO.alloc z_69 rfl (lb rfl)) <| XL.op rfl (XO.store ag_69 rfl rfl rfl rfl (lb rfl) rfl) <| XL.nil <| XQ.seq <| XC.seq <| XC.block <| XC.seq ?_
      refine XC.draw mixed (by kernel_rfl) ?_
      refine XS.op rfl rfl (lb rfl) (RO.move rfl) ?_
      first | refine XS.op rfl rfl (lb rfl) (RO.fieldOwn fo_24_1 rfl) ?_ | refine XS.op rfl rfl (lb rfl) (RO.fieldPel fo_24_1 rfl) ?_
      first | refine XS.op rfl rfl (lb rfl) (RO.loadOwn ag_22 rfl rfl rfl) ?_ | refine XS.op rfl rfl (lb rfl) (RO.loadPel ag_22 rfl rfl) ?_
      refine XS.op rfl rfl (lb rfl) (RO.len sl_22 rfl (by repeat' constructor)) ?_
      refine XS.op rfl rfl (lb rfl) (RO.cmp rfl rfl rfl) <| XS.op rfl rfl (lb rfl) (RO.move rfl) ?_
      refine XS.case (d := 59) rfl (fun c8 => ?_) (fun c8 => ?_)
      ·
        replace c8 := prs c8
        simp only [List.length_map] at c8
        exfalso; omega
      ·
        replace c8 := prs c8
        simp only [List.length_map] at c8
        refine XS.on rfl rfl rfl rfl (lb rfl) (RO.move rfl) ?_
        first | refine XS.on rfl rfl rfl rfl (lb rfl) (RO.fieldOwn fo_24_1 rfl) ?_ | refine XS.on rfl rfl rfl rfl (lb rfl) (RO.fieldPel fo_24_1 rfl) ?_
        first | refine XS.on rfl rfl rfl rfl (lb rfl) (RO.loadOwn ag_22 rfl rfl rfl) ?_ | refine XS.on rfl rfl rfl rfl (lb rfl) (RO.loadPel ag_22 rfl rfl) ?_
        refine XS.on rfl rfl rfl rfl (lb rfl) (RO.len sl_22 rfl (by repeat' constructor)) ?_
        refine XS.on rfl rfl rfl rfl (lb rfl) (RO.cmp rfl rfl rfl) <| XS.on rfl rfl rfl rfl (lb rfl) (RO.move rfl) ?_
        refine XS.case (d := 65) rfl (fun c9 => ?_) (fun c9 => ?_)
        ·
          replace c9 := prs c9
          simp only [List.length_map] at c9
          exfalso; omega
        ·
          replace c9 := prs c9
          simp only [List.length_map] at c9
          refine XS.offB rfl rfl rfl rfl <| XS.offB rfl rfl rfl rfl <| XS.offB rfl rfl rfl rfl <| XS.offB rfl rfl rfl rfl <| XS.offB rfl rfl rfl rfl <| XS.offB rfl rfl rfl rfl <| XS.offB rfl rfl rfl rfl <| XS.offB rfl rfl rfl rfl <| XS.offB rfl rfl rfl rfl <| XS.offB rfl rfl rfl rfl <| XS.offB rfl rfl rfl rfl <| XS.offB rfl rfl rfl rfl <| XS.offB rfl rfl rfl rfl <| XS.on rfl rfl rfl rfl (lb rfl) (RO.pickF rfl rfl) ?_
          refine XS.op rfl rfl (lb rfl) (RO.pickF rfl rfl) <| XS.op rfl rfl (lb rfl) (RO.assign rfl) <| XS.nil <| XQ.seq ?_
          refine XC.cond rfl (fun h => nomatch h) (fun _ => ?_)
          refine XC.seq ?_
          refine XC.draw mixed (by kernel_rfl) ?_
          refine XS.op rfl rfl (lb rfl) (RO.move rfl) ?_
          first | refine XS.op rfl rfl (lb rfl) (RO.fieldOwn fo_24_1 rfl) ?_ | refine XS.op rfl rfl (lb rfl) (RO.fieldPel fo_24_1 rfl) ?_
          first | refine XS.op rfl rfl (lb rfl) (RO.loadOwn ag_22 rfl rfl rfl) ?_ | refine XS.op rfl rfl (lb rfl) (RO.loadPel ag_22 rfl rfl) ?_
          refine XS.op rfl rfl (lb rfl) (RO.len sl_22 rfl (by repeat' constructor)) ?_
          refine XS.op rfl rfl (lb rfl) (RO.cmp rfl rfl rfl) <| XS.op rfl rfl (lb rfl) (RO.move rfl) ?_
          refine XS.case (d := 94) rfl (fun c10 => ?_) (fun c10 => ?_)
          ·
            replace c10 := prs c10
            simp only [List.length_map] at c10
            refine XS.offB rfl rfl rfl rfl <| XS.offB rfl rfl rfl rfl <| XS.offB rfl rfl rfl rfl <| XS.offB rfl rfl rfl rfl <| XS.offB rfl rfl rfl rfl <| XS.offB rfl rfl rfl rfl <| XS.offB rfl rfl rfl rfl <| XS.offB rfl rfl rfl rfl <| XS.offB rfl rfl rfl rfl <| XS.offB rfl rfl rfl rfl <| XS.offB rfl rfl rfl rfl <| XS.offB rfl rfl rfl rfl <| XS.offB rfl rfl rfl rfl <| XS.op rfl rfl (lb rfl) (RO.pickT rfl rfl) ?_
            refine XS.op rfl rfl (lb rfl) (RO.assign rfl) <| XS.nil <| XQ.seq ?_
            refine XC.cond rfl (fun _ => ?_) (fun h => nomatch h)
            refine XC.seq <| XC.region ?_
            first | refine oR rfl rfl rfl (RO.fieldOwn fo_24_1 rfl) ?_ | refine oR rfl rfl rfl (RO.fieldPel fo_24_1 rfl) ?_
            first | refine oR rfl rfl rfl (RO.loadOwn ag_22 rfl rfl rfl) ?_ | refine oR rfl rfl rfl (RO.loadPel ag_22 rfl rfl) ?_
            refine oM rfl rfl ?_
            refine XL.op rfl (XO.of_ro rfl (lb rfl) (RO.index sl_22 rfl (by repeat' constructor) rfl rfl (map_get hy))) ?_
            first | refine oR rfl rfl rfl (RO.loadOwnAgg ag_69 rfl rfl rfl rfl) ?_ | refine oR rfl rfl rfl (RO.loadPelAgg ag_69 rfl rfl rfl) ?_
            refine XL.op rfl (XO.store ag_69 rfl rfl rfl rfl (lb rfl) rfl) <| XL.nil <| XQ.seq <| XC.region <| oM rfl rfl ?_
            refine XL.op rfl (XO.of_ro rfl (lb rfl) (RO.arith rfl rfl rfl (by omega) (by omega))) ?_
            refine oA rfl rfl <| XL.nil <| XQ.inBlock <| XQ.seq <| XC.seq <| XC.region <| oM rfl rfl ?_
            first | refine oR rfl rfl rfl (RO.fieldOwn fo_69_1 rfl) ?_ | refine oR rfl rfl rfl (RO.fieldPel fo_69_1 rfl) ?_
            first | refine oR rfl rfl rfl (RO.loadOwn ag_3 rfl rfl rfl) ?_ | refine oR rfl rfl rfl (RO.loadPel ag_3 rfl rfl) ?_
            refine oR rfl rfl rfl (RO.max2 rfl rfl) <| oA rfl rfl <| XL.nil <| XQ.seq <| XC.region ?_
            first | refine oR rfl rfl rfl (RO.fieldOwn fo_24_1 rfl) ?_ | refine oR rfl rfl rfl (RO.fieldPel fo_24_1 rfl) ?_
            first | refine oR rfl rfl rfl (RO.loadOwn ag_22 rfl rfl rfl) ?_ | refine oR rfl rfl rfl (RO.loadPel ag_22 rfl rfl) ?_
            first | refine oR rfl rfl rfl (RO.loadOwnAgg ag_69 rfl rfl rfl rfl) ?_ | refine oR rfl rfl rfl (RO.loadPelAgg ag_69 rfl rfl rfl) ?_
            refine XL.op rfl (XO.lit1 (c1 := [_, _]) sl_22 z_69 rfl rfl (lb rfl) (lb rfl) rfl rfl (by repeat' constructor) rfl (lb rfl)) ?_
            first | refine XL.op rfl (XO.appendApp sl_22 el_69 (lb rfl) rfl rfl rfl (by repeat' constructor) (by simp only [List.length_map, List.length_append, List.length_cons, List.length_nil]; omega) (lb rfl)) ?_ | refine XL.op rfl (XO.appendNil sl_22 el_69 (lb rfl) rfl rfl (by repeat' constructor) (by simp only [List.length_map, List.length_append, List.length_cons, List.length_nil]; omega) (lb rfl)) ?_
            first | refine oR rfl rfl rfl (RO.fieldOwn fo_24_1 rfl) ?_ | refine oR rfl rfl rfl (RO.fieldPel fo_24_1 rfl) ?_
            refine XL.op rfl (XO.store ag_22 rfl rfl rfl rfl (lb rfl) rfl) <| XL.nil <| XQ.inBlock ?_
            refine XQ.next (i, k + 1, out ++ [(y1, y2)]) ?le ?okk (by dsimp only; omega)
            case le =>
              try dsimp only
              simp only [topOf_snoc, List.map_append]
              exact ⟨(by repeat' constructor), (by repeat' constructor), (by repeat (first | exact trivial | refine ⟨(by intro T h; first | (cases h; rfl) | cases h), ?_⟩)), (lb rfl), Nat.zero_le _, rfl, rfl, (by simp [tmBelow, TV.below, AV.below, CA.below]), (by simp [hpBelow, HB.below, CA.below]), (by simp [tkBelow]), (by simp)⟩
            case okk =>
              dsimp only
              have hmm : mergeV (A.vs.drop i) (B.vs.drop k) = (y1, y2) :: mergeV (A.vs.drop i) (B.vs.drop (k + 1)) := by first | exact merge_b (by omega) hy | exact merge_gt hx hy (by dsimp only; omega)
              refine ⟨by omega, by omega, by simp only [List.length_append, List.length_cons, List.length_nil]; omega, ?_⟩
              rw [← hout, hmm, List.append_assoc]; rfl
          ·
            replace c10 := prs c10
            simp only [List.length_map] at c10
            exfalso; omega
    ·
      replace c7 := prs c7
      simp only [List.length_map] at c7
      have hkB : B.vs.length ≤ k := by omega
      have hm : out = mergeV A.vs B.vs := by rw [← hout, merge_end hiA hkB, List.append_nil]
      refine XC.exit <| XQ.thenE <| XQ.thenE <| XQ.blockX <| XQ.seq <| XC.seq <| XC.seq <| XC.region ?_
      first | refine oR rfl rfl rfl (RO.fieldOwn fo_24_1 rfl) ?_ | refine oR rfl rfl rfl (RO.fieldPel fo_24_1 rfl) ?_
      first | refine oR rfl rfl rfl (RO.loadOwn ag_22 rfl rfl rfl) ?_ | refine oR rfl rfl rfl (RO.loadPel ag_22 rfl rfl) ?_
      refine XL.op rfl (XO.of_ro rfl (lb rfl) (RO.len sl_22 rfl (by repeat' constructor))) ?_
      refine oR rfl rfl rfl (RO.cmp rfl rfl rfl) <| oM rfl rfl ?_
      refine XL.case (d := 130) rfl (fun c11 => ?_) (fun c11 => ?_)
      ·
        replace c11 := prs c11
        simp only [List.length_map] at c11
        first | refine nR rfl rfl rfl rfl rfl (RO.fieldOwn fo_24_0 rfl) ?_ | refine nR rfl rfl rfl rfl rfl (RO.fieldPel fo_24_0 rfl) ?_
        first | refine nR rfl rfl rfl rfl rfl (RO.loadOwn ag_3 rfl rfl rfl) ?_ | refine nR rfl rfl rfl rfl rfl (RO.loadPel ag_3 rfl rfl) ?_
        refine nR rfl rfl rfl rfl rfl (RO.move rfl) <| nR rfl rfl rfl rfl rfl (RO.cmp rfl rfl rfl) <| oR rfl rfl rfl (RO.pickT rfl rfl) <| XL.nil <| XQ.seq ?_
        refine XC.cond rfl (fun c12 => ?_) (fun c12 => ?_)
        ·
          replace c12 := prs c12
          refine XC.region ?_
          first | refine oR rfl rfl rfl (RO.fieldOwn fo_24_0 rfl) ?_ | refine oR rfl rfl rfl (RO.fieldPel fo_24_0 rfl) ?_
          refine XL.op rfl (XO.store ag_3 rfl rfl rfl rfl (lb rfl) rfl) <| XL.nil <| XQ.seq <| XC.seq <| XC.region ?_
          first | refine oR rfl rfl rfl (RO.loadOwnAgg ag_24 rfl rfl rfl rfl) ?_ | refine oR rfl rfl rfl (RO.loadPelAgg ag_24 rfl rfl rfl) ?_
          refine XL.op rfl (XO.store ag_24 rfl rfl rfl rfl (lb rfl) rfl) <| XL.nil <| XQ.seq <| XC.ret ?_
          refine XQ.ret1 (fun _ _ h => h) rfl (RA.cellAgg ag_24 rfl rfl rfl rfl) ?s0 rfl
          case s0 => (rw [joinL_yes hm (by omega) (by omega)]); exact (by repeat' constructor)
        ·
          replace c12 := prs c12
          refine XC.skip <| XQ.seq <| XC.seq <| XC.region ?_
          first | refine oR rfl rfl rfl (RO.loadOwnAgg ag_24 rfl rfl rfl rfl) ?_ | refine oR rfl rfl rfl (RO.loadPelAgg ag_24 rfl rfl rfl) ?_
          refine XL.op rfl (XO.store ag_24 rfl rfl rfl rfl (lb rfl) rfl) <| XL.nil <| XQ.seq <| XC.ret ?_
          refine XQ.ret1 (fun _ _ h => h) rfl (RA.cellAgg ag_24 rfl rfl rfl rfl) ?s0 rfl
          case s0 => (rw [joinL_no hm (.inr (by omega))]); exact (by repeat' constructor)
      ·
        replace c11 := prs c11
        simp only [List.length_map] at c11
        refine XL.offB rfl rfl rfl rfl <| XL.offB rfl rfl rfl rfl <| XL.offB rfl rfl rfl rfl <| XL.offB rfl rfl rfl rfl <| oR rfl rfl rfl (RO.pickF rfl rfl) <| XL.nil <| XQ.seq ?_
        refine XC.cond rfl (fun h => nomatch h) (fun _ => ?_)
        refine XC.skip <| XQ.seq <| XC.seq <| XC.region ?_
        first | refine oR rfl rfl rfl (RO.loadOwnAgg ag_24 rfl rfl rfl rfl) ?_ | refine oR rfl rfl rfl (RO.loadPelAgg ag_24 rfl rfl rfl) ?_
        refine XL.op rfl (XO.store ag_24 rfl rfl rfl rfl (lb rfl) rfl) <| XL.nil <| XQ.seq <| XC.ret ?_
        refine XQ.ret1 (fun _ _ h => h) rfl (RA.cellAgg ag_24 rfl rfl rfl rfl) ?s0 rfl
        case s0 => (rw [joinL_no hm (.inl (by omega))]); exact (by repeat' constructor)

set_option maxRecDepth 100000 in
theorem maxR_fun (A B : Lvl) (ha : A.vs.length ≤ 100000) (hb : B.vs.length ≤ 100000) : Fun Tryz.prog 25 [lvlA A, lvlA B] (resLE (maxL A B)) := by
  refine Fun.of_body 9 18 Tryz.func25 rfl en_25 rfl (lb rfl) (fun S w => ?_)
  simp only [entry]
  refine XC.seq <| XC.region <| XL.op rfl (XO.box rfl (lb rfl)) <| XL.op rfl (XO.box rfl (lb rfl)) <| XL.op rfl (XO.alloc z_24 rfl (lb rfl)) <| oA rfl rfl <| XL.nil <| XQ.seq <| XC.seq <| XC.seq <| XC.region ?_
  first | refine oR rfl rfl rfl (RO.loadOwnAgg ag_24 rfl rfl rfl rfl) ?_ | refine oR rfl rfl rfl (RO.loadPelAgg ag_24 rfl rfl rfl) ?_
  refine XL.op rfl (XO.call1 (validR_fun A ha) rfl (by repeat' constructor) (lb rfl)) ?_
  refine oR rfl rfl rfl (RO.not rfl) <| oM rfl rfl ?_
  refine XL.case (d := 9) rfl (fun c1 => ?_) (fun c1 => ?_)
  ·
    replace c1 := prs c1
    refine XL.offB rfl rfl rfl rfl <| XL.offB rfl rfl rfl rfl <| XL.offB rfl rfl rfl rfl <| oR rfl rfl rfl (RO.pickT rfl rfl) <| XL.nil <| XQ.seq ?_
    refine XC.cond rfl (fun _ => ?_) (fun h => nomatch h)
    refine XC.seq <| XC.region <| XL.op rfl (XO.of_ro rfl (lb rfl) (RO.build0 bd_24 rfl )) <| XL.op rfl (XO.store ag_24 rfl rfl rfl rfl (lb rfl) rfl) <| oA rfl rfl <| XL.nil <| XQ.seq <| XC.ret ?_
    refine XQ.ret2 (fun _ _ h => h) rfl (RA.cellAgg ag_24 rfl rfl rfl rfl) ?s0 (RA.tmp rfl) ?s1 rfl
    case s0 => (rw [maxL_inv (by rw [c1]; rfl)]); exact (by repeat' constructor)
    case s1 => (rw [maxL_inv (by rw [c1]; rfl)]); exact (by repeat' constructor)
  ·
    replace c1 := prs c1
    first | refine nR rfl rfl rfl rfl rfl (RO.loadOwnAgg ag_24 rfl rfl rfl rfl) ?_ | refine nR rfl rfl rfl rfl rfl (RO.loadPelAgg ag_24 rfl rfl rfl) ?_
    refine XL.on rfl rfl rfl (XO.call1 (validR_fun B hb) rfl (by repeat' constructor) (lb rfl)) ?_
    refine nR rfl rfl rfl rfl rfl (RO.not rfl) <| oR rfl rfl rfl (RO.pickF rfl rfl) <| XL.nil <| XQ.seq ?_
    refine XC.cond rfl (fun c2 => ?_) (fun c2 => ?_)
    ·
      replace c2 := prs c2
      refine XC.seq <| XC.region <| XL.op rfl (XO.of_ro rfl (lb rfl) (RO.build0 bd_24 rfl )) <| XL.op rfl (XO.store ag_24 rfl rfl rfl rfl (lb rfl) rfl) <| oA rfl rfl <| XL.nil <| XQ.seq <| XC.ret ?_
      refine XQ.ret2 (fun _ _ h => h) rfl (RA.cellAgg ag_24 rfl rfl rfl rfl) ?s0 (RA.tmp rfl) ?s1 rfl
      case s0 => (rw [maxL_inv (by rw [c1, c2]; rfl)]); exact (by repeat' constructor)
      case s1 => (rw [maxL_inv (by rw [c1, c2]; rfl)]); exact (by repeat' constructor)
    ·
      replace c2 := prs c2
      refine XC.skip <| XQ.seq <| XC.seq <| XC.region ?_
      first | refine oR rfl rfl rfl (RO.loadOwnAgg ag_24 rfl rfl rfl rfl) ?_ | refine oR rfl rfl rfl (RO.loadPelAgg ag_24 rfl rfl rfl) ?_
      first | refine oR rfl rfl rfl (RO.loadOwnAgg ag_24 rfl rfl rfl rfl) ?_ | refine oR rfl rfl rfl (RO.loadPelAgg ag_24 rfl rfl rfl) ?_
      refine XL.op rfl (XO.call2 (join_fun A B ha hb) rfl (by repeat' constructor) rfl (by repeat' constructor) (lb rfl)) ?_
      refine XL.op rfl (XO.store ag_24 rfl rfl rfl rfl (lb rfl) rfl) <| oA rfl rfl <| XL.nil <| XQ.seq <| XC.ret ?_
      refine XQ.ret2 (fun _ _ h => h) rfl (RA.cellAgg ag_24 rfl rfl rfl rfl) ?s0 (RA.tmp rfl) ?s1 rfl
      case s0 => (rw [maxL_ok c1 c2]); exact (by repeat' constructor)
      case s1 => (rw [maxL_ok c1 c2]); exact (by repeat' constructor)
end Go.Proofs.YtcapifnaceegmaaGreatDoor
