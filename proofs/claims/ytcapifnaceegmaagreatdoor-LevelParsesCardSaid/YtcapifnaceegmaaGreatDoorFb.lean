/- level.Valid, the reference Valid, limited, Leq. -/
import Derived.Test.YtcapifnaceegmaaGreatDoorFa
namespace Go.Proofs.YtcapifnaceegmaaGreatDoor
open Go.RowKit
set_option linter.unusedSimpArgs false
set_option linter.unusedVariables false

set_option maxRecDepth 100000 in
set_option maxHeartbeats 1000000 in
theorem valid_fun (L : Lvl) (hlen : L.vs.length ≤ 100000) : Fun Tryz.prog 19 [lvlA L] (TB (validB L)) := by
  refine Fun.of_body 9 65 Tryz.func19 rfl en_19 rfl (lb rfl) (fun S w => ?_)
  simp only [entry]
  refine XC.seq <| XC.region <| XL.op rfl (XO.box rfl (lb rfl)) <| oA rfl rfl <| XL.nil <| XQ.seq <| XC.seq <| XC.seq <| XC.region ?_
  first | refine oR rfl rfl rfl (RO.fieldOwn fo_24_0 rfl) ?_ | refine oR rfl rfl rfl (RO.fieldPel fo_24_0 rfl) ?_
  first | refine oR rfl rfl rfl (RO.loadOwn ag_3 rfl rfl rfl) ?_ | refine oR rfl rfl rfl (RO.loadPel ag_3 rfl rfl) ?_
  refine oR rfl rfl rfl (RO.cmp rfl rfl rfl) <| oM rfl rfl ?_
  refine XL.case (d := 8) rfl (fun c1 => ?_) (fun c1 => ?_)
  ·
    replace c1 := prs c1
    refine XL.offB rfl rfl rfl rfl <| XL.offB rfl rfl rfl rfl <| XL.offB rfl rfl rfl rfl <| oR rfl rfl rfl (RO.pickT rfl rfl) <| oM rfl rfl <| XL.offB rfl rfl rfl rfl <| XL.offB rfl rfl rfl rfl <| XL.offB rfl rfl rfl rfl <| XL.offB rfl rfl rfl rfl <| XL.offU rfl rfl rfl rfl <| XL.offU rfl rfl rfl rfl <| XL.offB rfl rfl rfl rfl <| oR rfl rfl rfl (RO.pickT rfl rfl) <| XL.nil ?_
    refine XQ.seq ?_
    refine XC.cond rfl (fun _ => ?_) (fun h => nomatch h)
    refine XC.seq <| XC.region <| oA rfl rfl <| XL.nil <| XQ.seq <| XC.ret ?_
    refine XQ.ret1 (fun _ _ h => h) rfl (RA.tmp rfl) ?s0 rfl
    case s0 => (first | rw [valid_false_c (L := L) (.inl (by omega))] | rw [valid_false_c (L := L) (.inr (.inl (by omega)))] | rw [valid_false_c (L := L) (.inr (.inr ⟨by omega, by assumption⟩))] | rw [valid_false (L := L) hlt (not_okAt hx (by omega))] | rw [valid_false (L := L) hlt (not_okAt' hx hy (by omega) (by dsimp only; omega))] | rw [valid_true (L := L) h0 h1 hcov (fun j hj => hn j (by simp only [List.length_map] at *; omega))]); exact (by repeat' constructor)
  ·
    replace c1 := prs c1
    first | refine nR rfl rfl rfl rfl rfl (RO.fieldOwn fo_24_0 rfl) ?_ | refine nR rfl rfl rfl rfl rfl (RO.fieldPel fo_24_0 rfl) ?_
    first | refine nR rfl rfl rfl rfl rfl (RO.loadOwn ag_3 rfl rfl rfl) ?_ | refine nR rfl rfl rfl rfl rfl (RO.loadPel ag_3 rfl rfl) ?_
    refine nR rfl rfl rfl rfl rfl (RO.cmp rfl rfl rfl) <| oR rfl rfl rfl (RO.pickF rfl rfl) <| oM rfl rfl ?_
    refine XL.case (d := 13) rfl (fun c2 => ?_) (fun c2 => ?_)
    ·
      replace c2 := prs c2
      refine XL.offB rfl rfl rfl rfl <| XL.offB rfl rfl rfl rfl <| XL.offB rfl rfl rfl rfl <| XL.offB rfl rfl rfl rfl <| XL.offU rfl rfl rfl rfl <| XL.offU rfl rfl rfl rfl <| XL.offB rfl rfl rfl rfl <| oR rfl rfl rfl (RO.pickT rfl rfl) <| XL.nil <| XQ.seq ?_
      refine XC.cond rfl (fun _ => ?_) (fun h => nomatch h)
      refine XC.seq <| XC.region <| oA rfl rfl <| XL.nil <| XQ.seq <| XC.ret ?_
      refine XQ.ret1 (fun _ _ h => h) rfl (RA.tmp rfl) ?s0 rfl
      case s0 => (first | rw [valid_false_c (L := L) (.inl (by omega))] | rw [valid_false_c (L := L) (.inr (.inl (by omega)))] | rw [valid_false_c (L := L) (.inr (.inr ⟨by omega, by assumption⟩))] | rw [valid_false (L := L) hlt (not_okAt hx (by omega))] | rw [valid_false (L := L) hlt (not_okAt' hx hy (by omega) (by dsimp only; omega))] | rw [valid_true (L := L) h0 h1 hcov (fun j hj => hn j (by simp only [List.length_map] at *; omega))]); exact (by repeat' constructor)
    ·
      replace c2 := prs c2
      first | refine nR rfl rfl rfl rfl rfl (RO.fieldOwn fo_24_0 rfl) ?_ | refine nR rfl rfl rfl rfl rfl (RO.fieldPel fo_24_0 rfl) ?_
      first | refine nR rfl rfl rfl rfl rfl (RO.loadOwn ag_3 rfl rfl rfl) ?_ | refine nR rfl rfl rfl rfl rfl (RO.loadPel ag_3 rfl rfl) ?_
      refine nR rfl rfl rfl rfl rfl (RO.cmp rfl rfl rfl) <| nR rfl rfl rfl rfl rfl (RO.move rfl) ?_
      refine XL.case (d := 17) rfl (fun c3 => ?_) (fun c3 => ?_)
      ·
        replace c3 := prs c3
        first | refine nR rfl rfl rfl rfl rfl (RO.loadOwnAgg ag_24 rfl rfl rfl rfl) ?_ | refine nR rfl rfl rfl rfl rfl (RO.loadPelAgg ag_24 rfl rfl rfl) ?_
        refine XL.on rfl rfl rfl (XO.call1 (covered_fun L hlen) rfl (by repeat' constructor) (lb rfl)) ?_
        refine nR rfl rfl rfl rfl rfl (RO.pickT rfl rfl) <| oR rfl rfl rfl (RO.pickF rfl rfl) <| XL.nil <| XQ.seq ?_
        refine XC.cond rfl (fun c4 => ?_) (fun c4 => ?_)
        ·
          replace c4 := prs c4
          refine XC.seq <| XC.region <| oA rfl rfl <| XL.nil <| XQ.seq <| XC.ret ?_
          refine XQ.ret1 (fun _ _ h => h) rfl (RA.tmp rfl) ?s0 rfl
          case s0 => (first | rw [valid_false_c (L := L) (.inl (by omega))] | rw [valid_false_c (L := L) (.inr (.inl (by omega)))] | rw [valid_false_c (L := L) (.inr (.inr ⟨by omega, by assumption⟩))] | rw [valid_false (L := L) hlt (not_okAt hx (by omega))] | rw [valid_false (L := L) hlt (not_okAt' hx hy (by omega) (by dsimp only; omega))] | rw [valid_true (L := L) h0 h1 hcov (fun j hj => hn j (by simp only [List.length_map] at *; omega))]); exact (by repeat' constructor)
        ·
          replace c4 := prs c4
          refine XC.skip <| XQ.seq <| XC.seq <| XC.seq ?_
          have h0 : 0 ≤ L.c := by omega
          have h1 : L.c ≤ 100 := by omega
          have hcov : 0 < L.c → covB L.c L.vs = false := by first | (intro _; assumption) | (intro h; exfalso; omega)
          refine XC.region ?_
          first | refine oR rfl rfl rfl (RO.fieldOwn fo_24_1 rfl) ?_ | refine oR rfl rfl rfl (RO.fieldPel fo_24_1 rfl) ?_
          first | refine oR rfl rfl rfl (RO.loadOwn ag_22 rfl rfl rfl) ?_ | refine oR rfl rfl rfl (RO.loadPel ag_22 rfl rfl) ?_
          refine XL.op rfl (XO.of_ro rfl (lb rfl) (RO.len sl_22 rfl (by repeat' constructor))) ?_
          refine oM rfl rfl <| XL.nil <| XQ.seq <| XC.block ?_
          refine XC.loop (X := Nat) (fun k => ⟨[(1, .v (.one (.ptr 0 0))), (23, .v (.one (.d (vsC L.vs)))), (24, TI (L.vs.map lvC).length), (25, TI k)], [(0, .cells 24 [.d (.v (.int .i64 L.c)), .d (vsC L.vs)])], [], 1, 65, []⟩) (fun k => k ≤ L.vs.length ∧ ∀ j, j < k → okAt L.vs j) (fun k => L.vs.length - k) 0 ⟨(by repeat' constructor), (by repeat' constructor), (by repeat (first | exact trivial | refine ⟨(by intro T h; first | (cases h; rfl) | cases h), ?_⟩)), (lb rfl), Nat.zero_le _, rfl, rfl, (by simp [tmBelow, TV.below, AV.below, CA.below]), (by simp [hpBelow, HB.below, CA.below]), (by simp [tkBelow]), (by simp)⟩ ⟨Nat.zero_le _, fun j h => absurd h (Nat.not_lt_zero j)⟩ ?_
          rintro k ⟨hk, hn⟩
          try dsimp only
          refine XC.seq <| XC.region <| oR rfl rfl rfl (RO.cmp rfl rfl rfl) <| XL.nil <| XQ.seq <| XC.seq ?_
          refine XC.cond rfl (fun c5 => ?_) (fun c5 => ?_)
          ·
            replace c5 := prs c5
            simp only [List.length_map] at c5
            have hlt : k < L.vs.length := by omega
            obtain ⟨⟨x1, x2⟩, hx⟩ : ∃ x, L.vs[k]? = some x := ⟨_, List.getElem?_eq_getElem hlt⟩
            refine XC.skip <| XQ.seq <| XC.seq <| XC.block <| XC.seq <| XC.region <| oM rfl rfl ?_
            refine XL.op rfl (XO.of_ro rfl (lb rfl) (RO.index sl_22 rfl (by repeat' constructor) rfl rfl (map_get hx))) ?_
            first | refine oR rfl rfl rfl (RO.loadOwnAgg ag_69 rfl rfl rfl rfl) ?_ | refine oR rfl rfl rfl (RO.loadPelAgg ag_69 rfl rfl rfl) ?_
            refine XL.op rfl (XO.alloc z_69 rfl (lb rfl)) <| oA rfl rfl <| XL.op rfl (XO.store ag_69 rfl rfl rfl rfl (lb rfl) rfl) <| XL.nil <| XQ.seq <| XC.seq ?_
            refine XC.draw mixed (by kernel_rfl) ?_
            first | refine XS.op rfl rfl (lb rfl) (RO.fieldOwn fo_69_0 rfl) ?_ | refine XS.op rfl rfl (lb rfl) (RO.fieldPel fo_69_0 rfl) ?_
            first | refine XS.op rfl rfl (lb rfl) (RO.loadOwn ag_3 rfl rfl rfl) ?_ | refine XS.op rfl rfl (lb rfl) (RO.loadPel ag_3 rfl rfl) ?_
            refine XS.op rfl rfl (lb rfl) (RO.cmp rfl rfl rfl) <| XS.op rfl rfl (lb rfl) (RO.move rfl) ?_
            refine XS.case (d := 33) rfl (fun c6 => ?_) (fun c6 => ?_)
            ·
              replace c6 := prs c6
              refine XS.offB rfl rfl rfl rfl <| XS.offB rfl rfl rfl rfl <| XS.offB rfl rfl rfl rfl <| XS.op rfl rfl (lb rfl) (RO.pickT rfl rfl) <| XS.op rfl rfl (lb rfl) (RO.move rfl) <| XS.offB rfl rfl rfl rfl <| XS.offB rfl rfl rfl rfl <| XS.offB rfl rfl rfl rfl <| XS.op rfl rfl (lb rfl) (RO.pickT rfl rfl) <| XS.op rfl rfl (lb rfl) (RO.move rfl) <| XS.offB rfl rfl rfl rfl <| XS.offB rfl rfl rfl rfl <| XS.offB rfl rfl rfl rfl <| XS.op rfl rfl (lb rfl) (RO.pickT rfl rfl) ?_
              refine XS.op rfl rfl (lb rfl) (RO.move rfl) <| XS.offB rfl rfl rfl rfl <| XS.offB rfl rfl rfl rfl <| XS.offB rfl rfl rfl rfl <| XS.offU rfl rfl rfl rfl <| XS.offU rfl rfl rfl rfl <| XS.offU rfl rfl rfl rfl <| XS.offU rfl rfl rfl rfl <| XS.offU rfl rfl rfl rfl <| XS.offU rfl rfl rfl rfl <| XS.offU rfl rfl rfl rfl <| XS.offU rfl rfl rfl rfl <| XS.offU rfl rfl rfl rfl <| XS.offU rfl rfl rfl rfl ?_
              refine XS.offB rfl rfl rfl rfl <| XS.op rfl rfl (lb rfl) (RO.pickT rfl rfl) <| XS.nil <| XQ.seq ?_
              refine XC.cond rfl (fun _ => ?_) (fun h => nomatch h)
              refine XC.seq <| XC.region <| oA rfl rfl <| XL.nil <| XQ.seq <| XC.ret ?_
              refine XQ.ret1 (fun _ _ h => h) rfl (RA.tmp rfl) ?s0 rfl
              case s0 => (first | rw [valid_false_c (L := L) (.inl (by omega))] | rw [valid_false_c (L := L) (.inr (.inl (by omega)))] | rw [valid_false_c (L := L) (.inr (.inr ⟨by omega, by assumption⟩))] | rw [valid_false (L := L) hlt (not_okAt hx (by omega))] | rw [valid_false (L := L) hlt (not_okAt' hx hy (by omega) (by dsimp only; omega))] | rw [valid_true (L := L) h0 h1 hcov (fun j hj => hn j (by simp only [List.length_map] at *; omega))]); exact (by repeat' constructor)
            ·
              replace c6 := prs c6
              first | refine XS.on rfl rfl rfl rfl (lb rfl) (RO.fieldOwn fo_69_0 rfl) ?_ | refine XS.on rfl rfl rfl rfl (lb rfl) (RO.fieldPel fo_69_0 rfl) ?_
              first | refine XS.on rfl rfl rfl rfl (lb rfl) (RO.loadOwn ag_3 rfl rfl rfl) ?_ | refine XS.on rfl rfl rfl rfl (lb rfl) (RO.loadPel ag_3 rfl rfl) ?_
              refine XS.on rfl rfl rfl rfl (lb rfl) (RO.cmp rfl rfl rfl) <| XS.op rfl rfl (lb rfl) (RO.pickF rfl rfl) <| XS.op rfl rfl (lb rfl) (RO.move rfl) ?_
              refine XS.case (d := 38) rfl (fun c7 => ?_) (fun c7 => ?_)
              ·
                replace c7 := prs c7
                refine XS.offB rfl rfl rfl rfl <| XS.offB rfl rfl rfl rfl <| XS.offB rfl rfl rfl rfl <| XS.op rfl rfl (lb rfl) (RO.pickT rfl rfl) <| XS.op rfl rfl (lb rfl) (RO.move rfl) <| XS.offB rfl rfl rfl rfl <| XS.offB rfl rfl rfl rfl <| XS.offB rfl rfl rfl rfl <| XS.op rfl rfl (lb rfl) (RO.pickT rfl rfl) <| XS.op rfl rfl (lb rfl) (RO.move rfl) <| XS.offB rfl rfl rfl rfl <| XS.offB rfl rfl rfl rfl <| XS.offB rfl rfl rfl rfl <| XS.offU rfl rfl rfl rfl ?_
                refine XS.offU rfl rfl rfl rfl <| XS.offU rfl rfl rfl rfl <| XS.offU rfl rfl rfl rfl <| XS.offU rfl rfl rfl rfl <| XS.offU rfl rfl rfl rfl <| XS.offU rfl rfl rfl rfl <| XS.offU rfl rfl rfl rfl <| XS.offU rfl rfl rfl rfl <| XS.offU rfl rfl rfl rfl <| XS.offB rfl rfl rfl rfl <| XS.op rfl rfl (lb rfl) (RO.pickT rfl rfl) <| XS.nil <| XQ.seq ?_
                refine XC.cond rfl (fun _ => ?_) (fun h => nomatch h)
                refine XC.seq <| XC.region <| oA rfl rfl <| XL.nil <| XQ.seq <| XC.ret ?_
                refine XQ.ret1 (fun _ _ h => h) rfl (RA.tmp rfl) ?s0 rfl
                case s0 => (first | rw [valid_false_c (L := L) (.inl (by omega))] | rw [valid_false_c (L := L) (.inr (.inl (by omega)))] | rw [valid_false_c (L := L) (.inr (.inr ⟨by omega, by assumption⟩))] | rw [valid_false (L := L) hlt (not_okAt hx (by omega))] | rw [valid_false (L := L) hlt (not_okAt' hx hy (by omega) (by dsimp only; omega))] | rw [valid_true (L := L) h0 h1 hcov (fun j hj => hn j (by simp only [List.length_map] at *; omega))]); exact (by repeat' constructor)
              ·
                replace c7 := prs c7
                first | refine XS.on rfl rfl rfl rfl (lb rfl) (RO.fieldOwn fo_69_1 rfl) ?_ | refine XS.on rfl rfl rfl rfl (lb rfl) (RO.fieldPel fo_69_1 rfl) ?_
                first | refine XS.on rfl rfl rfl rfl (lb rfl) (RO.loadOwn ag_3 rfl rfl rfl) ?_ | refine XS.on rfl rfl rfl rfl (lb rfl) (RO.loadPel ag_3 rfl rfl) ?_
                refine XS.on rfl rfl rfl rfl (lb rfl) (RO.cmp rfl rfl rfl) <| XS.op rfl rfl (lb rfl) (RO.pickF rfl rfl) <| XS.op rfl rfl (lb rfl) (RO.move rfl) ?_
                refine XS.case (d := 43) rfl (fun c8 => ?_) (fun c8 => ?_)
                ·
                  replace c8 := prs c8
                  refine XS.offB rfl rfl rfl rfl <| XS.offB rfl rfl rfl rfl <| XS.offB rfl rfl rfl rfl <| XS.op rfl rfl (lb rfl) (RO.pickT rfl rfl) <| XS.op rfl rfl (lb rfl) (RO.move rfl) <| XS.offB rfl rfl rfl rfl <| XS.offB rfl rfl rfl rfl <| XS.offB rfl rfl rfl rfl <| XS.offU rfl rfl rfl rfl <| XS.offU rfl rfl rfl rfl <| XS.offU rfl rfl rfl rfl <| XS.offU rfl rfl rfl rfl <| XS.offU rfl rfl rfl rfl <| XS.offU rfl rfl rfl rfl ?_
                  refine XS.offU rfl rfl rfl rfl <| XS.offU rfl rfl rfl rfl <| XS.offU rfl rfl rfl rfl <| XS.offU rfl rfl rfl rfl <| XS.offB rfl rfl rfl rfl <| XS.op rfl rfl (lb rfl) (RO.pickT rfl rfl) <| XS.nil <| XQ.seq ?_
                  refine XC.cond rfl (fun _ => ?_) (fun h => nomatch h)
                  refine XC.seq <| XC.region <| oA rfl rfl <| XL.nil <| XQ.seq <| XC.ret ?_
                  refine XQ.ret1 (fun _ _ h => h) rfl (RA.tmp rfl) ?s0 rfl
                  case s0 => (first | rw [valid_false_c (L := L) (.inl (by omega))] | rw [valid_false_c (L := L) (.inr (.inl (by omega)))] | rw [valid_false_c (L := L) (.inr (.inr ⟨by omega, by assumption⟩))] | rw [valid_false (L := L) hlt (not_okAt hx (by omega))] | rw [valid_false (L := L) hlt (not_okAt' hx hy (by omega) (by dsimp only; omega))] | rw [valid_true (L := L) h0 h1 hcov (fun j hj => hn j (by simp only [List.length_map] at *; omega))]); exact (by repeat' constructor)
                ·
                  replace c8 := prs c8
                  first | refine XS.on rfl rfl rfl rfl (lb rfl) (RO.fieldOwn fo_69_1 rfl) ?_ | refine XS.on rfl rfl rfl rfl (lb rfl) (RO.fieldPel fo_69_1 rfl) ?_
                  first | refine XS.on rfl rfl rfl rfl (lb rfl) (RO.loadOwn ag_3 rfl rfl rfl) ?_ | refine XS.on rfl rfl rfl rfl (lb rfl) (RO.loadPel ag_3 rfl rfl) ?_
                  refine XS.on rfl rfl rfl rfl (lb rfl) (RO.cmp rfl rfl rfl) <| XS.op rfl rfl (lb rfl) (RO.pickF rfl rfl) <| XS.op rfl rfl (lb rfl) (RO.move rfl) ?_
                  refine XS.case (d := 48) rfl (fun c9 => ?_) (fun c9 => ?_)
                  ·
                    replace c9 := prs c9
                    refine XS.offB rfl rfl rfl rfl <| XS.offB rfl rfl rfl rfl <| XS.offB rfl rfl rfl rfl <| XS.offU rfl rfl rfl rfl <| XS.offU rfl rfl rfl rfl <| XS.offU rfl rfl rfl rfl <| XS.offU rfl rfl rfl rfl <| XS.offU rfl rfl rfl rfl <| XS.offU rfl rfl rfl rfl <| XS.offU rfl rfl rfl rfl <| XS.offU rfl rfl rfl rfl <| XS.offU rfl rfl rfl rfl <| XS.offU rfl rfl rfl rfl <| XS.offB rfl rfl rfl rfl ?_
                    refine XS.op rfl rfl (lb rfl) (RO.pickT rfl rfl) <| XS.nil <| XQ.seq ?_
                    refine XC.cond rfl (fun _ => ?_) (fun h => nomatch h)
                    refine XC.seq <| XC.region <| oA rfl rfl <| XL.nil <| XQ.seq <| XC.ret ?_
                    refine XQ.ret1 (fun _ _ h => h) rfl (RA.tmp rfl) ?s0 rfl
                    case s0 => (first | rw [valid_false_c (L := L) (.inl (by omega))] | rw [valid_false_c (L := L) (.inr (.inl (by omega)))] | rw [valid_false_c (L := L) (.inr (.inr ⟨by omega, by assumption⟩))] | rw [valid_false (L := L) hlt (not_okAt hx (by omega))] | rw [valid_false (L := L) hlt (not_okAt' hx hy (by omega) (by dsimp only; omega))] | rw [valid_true (L := L) h0 h1 hcov (fun j hj => hn j (by simp only [List.length_map] at *; omega))]); exact (by repeat' constructor)
                  ·
                    replace c9 := prs c9
                    refine XS.on rfl rfl rfl rfl (lb rfl) (RO.move rfl) <| XS.on rfl rfl rfl rfl (lb rfl) (RO.cmp rfl rfl rfl) <| XS.on rfl rfl rfl rfl (lb rfl) (RO.move rfl) ?_
                    refine XS.case (d := 51) rfl (fun c10 => ?_) (fun c10 => ?_)
                    ·
                      replace c10 := prs c10
                      first | refine XS.on rfl rfl rfl rfl (lb rfl) (RO.fieldOwn fo_24_1 rfl) ?_ | refine XS.on rfl rfl rfl rfl (lb rfl) (RO.fieldPel fo_24_1 rfl) ?_
                      first | refine XS.on rfl rfl rfl rfl (lb rfl) (RO.loadOwn ag_22 rfl rfl rfl) ?_ | refine XS.on rfl rfl rfl rfl (lb rfl) (RO.loadPel ag_22 rfl rfl) ?_
                      refine XS.on rfl rfl rfl rfl (lb rfl) (RO.move rfl) ?_
                      refine XS.on rfl rfl rfl rfl (lb rfl) (RO.arith rfl rfl rfl (by omega) (by omega)) ?_
                      obtain ⟨⟨y1, y2⟩, hy⟩ : ∃ y, L.vs[k - 1]? = some y := ⟨_, List.getElem?_eq_getElem (by omega)⟩
                      refine XS.on rfl rfl rfl rfl (lb rfl) (RO.index sl_22 rfl (by repeat' constructor) rfl (show (k : Int) - 1 = ((k - 1 : Nat) : Int) by omega) (map_get hy)) ?_
                      first | refine XS.on rfl rfl rfl rfl (lb rfl) (RO.fieldOwn fo_69_0 rfl) ?_ | refine XS.on rfl rfl rfl rfl (lb rfl) (RO.fieldPel fo_69_0 rfl) ?_
                      first | refine XS.on rfl rfl rfl rfl (lb rfl) (RO.loadOwn ag_3 rfl rfl rfl) ?_ | refine XS.on rfl rfl rfl rfl (lb rfl) (RO.loadPel ag_3 rfl rfl) ?_
                      first | refine XS.on rfl rfl rfl rfl (lb rfl) (RO.fieldOwn fo_69_0 rfl) ?_ | refine XS.on rfl rfl rfl rfl (lb rfl) (RO.fieldPel fo_69_0 rfl) ?_
                      first | refine XS.on rfl rfl rfl rfl (lb rfl) (RO.loadOwn ag_3 rfl rfl rfl) ?_ | refine XS.on rfl rfl rfl rfl (lb rfl) (RO.loadPel ag_3 rfl rfl) ?_
                      refine XS.on rfl rfl rfl rfl (lb rfl) (RO.cmp rfl rfl rfl) <| XS.on rfl rfl rfl rfl (lb rfl) (RO.pickT rfl rfl) <| XS.op rfl rfl (lb rfl) (RO.pickF rfl rfl) <| XS.nil <| XQ.seq ?_
                      refine XC.cond rfl (fun c11 => ?_) (fun c11 => ?_)
                      ·
                        replace c11 := prs c11
                        refine XC.seq <| XC.region <| oA rfl rfl <| XL.nil <| XQ.seq <| XC.ret ?_
                        refine XQ.ret1 (fun _ _ h => h) rfl (RA.tmp rfl) ?s0 rfl
                        case s0 => (first | rw [valid_false_c (L := L) (.inl (by omega))] | rw [valid_false_c (L := L) (.inr (.inl (by omega)))] | rw [valid_false_c (L := L) (.inr (.inr ⟨by omega, by assumption⟩))] | rw [valid_false (L := L) hlt (not_okAt hx (by omega))] | rw [valid_false (L := L) hlt (not_okAt' hx hy (by omega) (by dsimp only; omega))] | rw [valid_true (L := L) h0 h1 hcov (fun j hj => hn j (by simp only [List.length_map] at *; omega))]); exact (by repeat' constructor)
                      ·
                        replace c11 := prs c11
                        refine XC.skip <| XQ.inBlock <| XQ.seq <| XC.region ?_
                        refine XL.op rfl (XO.of_ro rfl (lb rfl) (RO.arith rfl rfl rfl (by omega) (by omega))) ?_
                        refine oM rfl rfl <| XL.nil ?_
                        refine XQ.next (k + 1) ⟨(by repeat' constructor), (by repeat' constructor), (by repeat (first | exact trivial | refine ⟨(by intro T h; first | (cases h; rfl) | cases h), ?_⟩)), (lb rfl), Nat.zero_le _, rfl, rfl, (by simp [tmBelow, TV.below, AV.below, CA.below]), (by simp [hpBelow, HB.below, CA.below]), (by simp [tkBelow]), (by simp)⟩ ⟨by omega, ?_⟩ (by omega)
                        intro j hj
                        rcases Nat.lt_or_ge j k with h | h
                        · exact hn j h
                        · obtain rfl : j = k := by omega
                          first | exact is_okAt hx (by omega) (by omega) (by omega) (by omega) (fun y1 y2 h0 h => by omega) | exact is_okAt hx (by omega) (by omega) (by omega) (by omega) (fun y1 y2 _ h => by rw [hy] at h; cases h; omega)
                    ·
                      replace c10 := prs c10
                      refine XS.offB rfl rfl rfl rfl <| XS.offB rfl rfl rfl rfl <| XS.offB rfl rfl rfl rfl <| XS.offB rfl rfl rfl rfl <| XS.offB rfl rfl rfl rfl <| XS.offB rfl rfl rfl rfl <| XS.offB rfl rfl rfl rfl <| XS.offB rfl rfl rfl rfl <| XS.offB rfl rfl rfl rfl <| XS.offB rfl rfl rfl rfl <| XS.on rfl rfl rfl rfl (lb rfl) (RO.pickF rfl rfl) <| XS.op rfl rfl (lb rfl) (RO.pickF rfl rfl) <| XS.nil <| XQ.seq ?_
                      refine XC.cond rfl (fun h => nomatch h) (fun _ => ?_)
                      refine XC.skip <| XQ.inBlock <| XQ.seq <| XC.region ?_
                      refine XL.op rfl (XO.of_ro rfl (lb rfl) (RO.arith rfl rfl rfl (by omega) (by omega))) ?_
                      refine oM rfl rfl <| XL.nil ?_
                      refine XQ.next (k + 1) ⟨(by repeat' constructor), (by repeat' constructor), (by repeat (first | exact trivial | refine ⟨(by intro T h; first | (cases h; rfl) | cases h), ?_⟩)), (lb rfl), Nat.zero_le _, rfl, rfl, (by simp [tmBelow, TV.below, AV.below, CA.below]), (by simp [hpBelow, HB.below, CA.below]), (by simp [tkBelow]), (by simp)⟩ ⟨by omega, ?_⟩ (by omega)
                      intro j hj
                      rcases Nat.lt_or_ge j k with h | h
                      · exact hn j h
                      · obtain rfl : j = k := by omega
                        first | exact is_okAt hx (by omega) (by omega) (by omega) (by omega) (fun y1 y2 h0 h => by omega) | exact is_okAt hx (by omega) (by omega) (by omega) (by omega) (fun y1 y2 _ h => by rw [hy] at h; cases h; omega)
          ·
            replace c5 := prs c5
            refine XC.exit <| XQ.thenE <| XQ.thenE <| XQ.blockX <| XQ.seq <| XC.seq <| XC.region <| oA rfl rfl <| XL.nil <| XQ.seq <| XC.ret ?_
            refine XQ.ret1 (fun _ _ h => h) rfl (RA.tmp rfl) ?s0 rfl
            case s0 => (first | rw [valid_false_c (L := L) (.inl (by omega))] | rw [valid_false_c (L := L) (.inr (.inl (by omega)))] | rw [valid_false_c (L := L) (.inr (.inr ⟨by omega, by assumption⟩))] | rw [valid_false (L := L) hlt (not_okAt hx (by omega))] | rw [valid_false (L := L) hlt (not_okAt' hx hy (by omega) (by dsimp only; omega))] | rw [valid_true (L := L) h0 h1 hcov (fun j hj => hn j (by simp only [List.length_map] at *; omega))]); exact (by repeat' constructor)
      ·
        replace c3 := prs c3
        refine XL.offB rfl rfl rfl rfl <| XL.offB rfl rfl rfl rfl <| nR rfl rfl rfl rfl rfl (RO.pickF rfl rfl) <| oR rfl rfl rfl (RO.pickF rfl rfl) <| XL.nil <| XQ.seq ?_
        refine XC.cond rfl (fun h => nomatch h) (fun _ => ?_)
        refine XC.skip <| XQ.seq <| XC.seq <| XC.seq ?_
        have h0 : 0 ≤ L.c := by omega
        have h1 : L.c ≤ 100 := by omega
        have hcov : 0 < L.c → covB L.c L.vs = false := by first | (intro _; assumption) | (intro h; exfalso; omega)
        refine XC.region ?_
        first | refine oR rfl rfl rfl (RO.fieldOwn fo_24_1 rfl) ?_ | refine oR rfl rfl rfl (RO.fieldPel fo_24_1 rfl) ?_
        first | refine oR rfl rfl rfl (RO.loadOwn ag_22 rfl rfl rfl) ?_ | refine oR rfl rfl rfl (RO.loadPel ag_22 rfl rfl) ?_
        refine XL.op rfl (XO.of_ro rfl (lb rfl) (RO.len sl_22 rfl (by repeat' constructor))) ?_
        refine oM rfl rfl <| XL.nil <| XQ.seq <| XC.block ?_
        refine XC.loop (X := Nat) (fun k => ⟨[(1, .v (.one (.ptr 0 0))), (23, .v (.one (.d (vsC L.vs)))), (24, TI (L.vs.map lvC).length), (25, TI k)], [(0, .cells 24 [.d (.v (.int .i64 L.c)), .d (vsC L.vs)])], [], 1, 65, []⟩) (fun k => k ≤ L.vs.length ∧ ∀ j, j < k → okAt L.vs j) (fun k => L.vs.length - k) 0 ⟨(by repeat' constructor), (by repeat' constructor), (by repeat (first | exact trivial | refine ⟨(by intro T h; first | (cases h; rfl) | cases h), ?_⟩)), (lb rfl), Nat.zero_le _, rfl, rfl, (by simp [tmBelow, TV.below, AV.below, CA.below]), (by simp [hpBelow, HB.below, CA.below]), (by simp [tkBelow]), (by simp)⟩ ⟨Nat.zero_le _, fun j h => absurd h (Nat.not_lt_zero j)⟩ ?_
        rintro k ⟨hk, hn⟩
        try dsimp only
        refine XC.seq <| XC.region <| oR rfl rfl rfl (RO.cmp rfl rfl rfl) <| XL.nil <| XQ.seq <| XC.seq ?_
        refine XC.cond rfl (fun c12 => ?_) (fun c12 => ?_)
        ·
          replace c12 := prs c12
          simp only [List.length_map] at c12
          have hlt : k < L.vs.length := by omega
          obtain ⟨⟨x1, x2⟩, hx⟩ : ∃ x, L.vs[k]? = some x := ⟨_, List.getElem?_eq_getElem hlt⟩
          refine XC.skip <| XQ.seq <| XC.seq <| XC.block <| XC.seq <| XC.region <| oM rfl rfl ?_
          refine XL.op rfl (XO.of_ro rfl (lb rfl) (RO.index sl_22 rfl (by repeat' constructor) rfl rfl (map_get hx))) ?_
          first | refine oR rfl rfl rfl (RO.loadOwnAgg ag_69 rfl rfl rfl rfl) ?_ | refine oR rfl rfl rfl (RO.loadPelAgg ag_69 rfl rfl rfl) ?_
          refine XL.op rfl (XO.alloc z_69 rfl (lb rfl)) <| oA rfl rfl <| XL.op rfl (XO.store ag_69 rfl rfl rfl rfl (lb rfl) rfl) <| XL.nil <| XQ.seq <| XC.seq ?_
          refine XC.draw mixed (by kernel_rfl) ?_
          first | refine XS.op rfl rfl (lb rfl) (RO.fieldOwn fo_69_0 rfl) ?_ | refine XS.op rfl rfl (lb rfl) (RO.fieldPel fo_69_0 rfl) ?_
          first | refine XS.op rfl rfl (lb rfl) (RO.loadOwn ag_3 rfl rfl rfl) ?_ | refine XS.op rfl rfl (lb rfl) (RO.loadPel ag_3 rfl rfl) ?_
          refine XS.op rfl rfl (lb rfl) (RO.cmp rfl rfl rfl) <| XS.op rfl rfl (lb rfl) (RO.move rfl) ?_
          refine XS.case (d := 33) rfl (fun c13 => ?_) (fun c13 => ?_)
          ·
            replace c13 := prs c13
            refine XS.offB rfl rfl rfl rfl <| XS.offB rfl rfl rfl rfl <| XS.offB rfl rfl rfl rfl <| XS.op rfl rfl (lb rfl) (RO.pickT rfl rfl) <| XS.op rfl rfl (lb rfl) (RO.move rfl) <| XS.offB rfl rfl rfl rfl <| XS.offB rfl rfl rfl rfl <| XS.offB rfl rfl rfl rfl <| XS.op rfl rfl (lb rfl) (RO.pickT rfl rfl) <| XS.op rfl rfl (lb rfl) (RO.move rfl) <| XS.offB rfl rfl rfl rfl <| XS.offB rfl rfl rfl rfl <| XS.offB rfl rfl rfl rfl <| XS.op rfl rfl (lb rfl) (RO.pickT rfl rfl) ?_
            refine XS.op rfl rfl (lb rfl) (RO.move rfl) <| XS.offB rfl rfl rfl rfl <| XS.offB rfl rfl rfl rfl <| XS.offB rfl rfl rfl rfl <| XS.offU rfl rfl rfl rfl <| XS.offU rfl rfl rfl rfl <| XS.offU rfl rfl rfl rfl <| XS.offU rfl rfl rfl rfl <| XS.offU rfl rfl rfl rfl <| XS.offU rfl rfl rfl rfl <| XS.offU rfl rfl rfl rfl <| XS.offU rfl rfl rfl rfl <| XS.offU rfl rfl rfl rfl <| XS.offU rfl rfl rfl rfl ?_
            refine XS.offB rfl rfl rfl rfl <| XS.op rfl rfl (lb rfl) (RO.pickT rfl rfl) <| XS.nil <| XQ.seq ?_
            refine XC.cond rfl (fun _ => ?_) (fun h => nomatch h)
            refine XC.seq <| XC.region <| oA rfl rfl <| XL.nil <| XQ.seq <| XC.ret ?_
            refine XQ.ret1 (fun _ _ h => h) rfl (RA.tmp rfl) ?s0 rfl
            case s0 => (first | rw [valid_false_c (L := L) (.inl (by omega))] | rw [valid_false_c (L := L) (.inr (.inl (by omega)))] | rw [valid_false_c (L := L) (.inr (.inr ⟨by omega, by assumption⟩))] | rw [valid_false (L := L) hlt (not_okAt hx (by omega))] | rw [valid_false (L := L) hlt (not_okAt' hx hy (by omega) (by dsimp only; omega))] | rw [valid_true (L := L) h0 h1 hcov (fun j hj => hn j (by simp only [List.length_map] at *; omega))]); exact (by repeat' constructor)
          ·
            replace c13 := prs c13
            first | refine XS.on rfl rfl rfl rfl (lb rfl) (RO.fieldOwn fo_69_0 rfl) ?_ | refine XS.on rfl rfl rfl rfl (lb rfl) (RO.fieldPel fo_69_0 rfl) ?_
            first | refine XS.on rfl rfl rfl rfl (lb rfl) (RO.loadOwn ag_3 rfl rfl rfl) ?_ | refine XS.on rfl rfl rfl rfl (lb rfl) (RO.loadPel ag_3 rfl rfl) ?_
            refine XS.on rfl rfl rfl rfl (lb rfl) (RO.cmp rfl rfl rfl) <| XS.op rfl rfl (lb rfl) (RO.pickF rfl rfl) <| XS.op rfl rfl (lb rfl) (RO.move rfl) ?_
            refine XS.case (d := 38) rfl (fun c14 => ?_) (fun c14 => ?_)
            ·
              replace c14 := prs c14
              refine XS.offB rfl rfl rfl rfl <| XS.offB rfl rfl rfl rfl <| XS.offB rfl rfl rfl rfl <| XS.op rfl rfl (lb rfl) (RO.pickT rfl rfl) <| XS.op rfl rfl (lb rfl) (RO.move rfl) <| XS.offB rfl rfl rfl rfl <| XS.offB rfl rfl rfl rfl <| XS.offB rfl rfl rfl rfl <| XS.op rfl rfl (lb rfl) (RO.pickT rfl rfl) <| XS.op rfl rfl (lb rfl) (RO.move rfl) <| XS.offB rfl rfl rfl rfl <| XS.offB rfl rfl rfl rfl <| XS.offB rfl rfl rfl rfl <| XS.offU rfl rfl rfl rfl ?_
              refine XS.offU rfl rfl rfl rfl <| XS.offU rfl rfl rfl rfl <| XS.offU rfl rfl rfl rfl <| XS.offU rfl rfl rfl rfl <| XS.offU rfl rfl rfl rfl <| XS.offU rfl rfl rfl rfl <| XS.offU rfl rfl rfl rfl <| XS.offU rfl rfl rfl rfl <| XS.offU rfl rfl rfl rfl <| XS.offB rfl rfl rfl rfl <| XS.op rfl rfl (lb rfl) (RO.pickT rfl rfl) <| XS.nil <| XQ.seq ?_
              refine XC.cond rfl (fun _ => ?_) (fun h => nomatch h)
              refine XC.seq <| XC.region <| oA rfl rfl <| XL.nil <| XQ.seq <| XC.ret ?_
              refine XQ.ret1 (fun _ _ h => h) rfl (RA.tmp rfl) ?s0 rfl
              case s0 => (first | rw [valid_false_c (L := L) (.inl (by omega))] | rw [valid_false_c (L := L) (.inr (.inl (by omega)))] | rw [valid_false_c (L := L) (.inr (.inr ⟨by omega, by assumption⟩))] | rw [valid_false (L := L) hlt (not_okAt hx (by omega))] | rw [valid_false (L := L) hlt (not_okAt' hx hy (by omega) (by dsimp only; omega))] | rw [valid_true (L := L) h0 h1 hcov (fun j hj => hn j (by simp only [List.length_map] at *; omega))]); exact (by repeat' constructor)
            ·
              replace c14 := prs c14
              first | refine XS.on rfl rfl rfl rfl (lb rfl) (RO.fieldOwn fo_69_1 rfl) ?_ | refine XS.on rfl rfl rfl rfl (lb rfl) (RO.fieldPel fo_69_1 rfl) ?_
              first | refine XS.on rfl rfl rfl rfl (lb rfl) (RO.loadOwn ag_3 rfl rfl rfl) ?_ | refine XS.on rfl rfl rfl rfl (lb rfl) (RO.loadPel ag_3 rfl rfl) ?_
              refine XS.on rfl rfl rfl rfl (lb rfl) (RO.cmp rfl rfl rfl) <| XS.op rfl rfl (lb rfl) (RO.pickF rfl rfl) <| XS.op rfl rfl (lb rfl) (RO.move rfl) ?_
              refine XS.case (d := 43) rfl (fun c15 => ?_) (fun c15 => ?_)
              ·
                replace c15 := prs c15
                refine XS.offB rfl rfl rfl rfl <| XS.offB rfl rfl rfl rfl <| XS.offB rfl rfl rfl rfl <| XS.op rfl rfl (lb rfl) (RO.pickT rfl rfl) <| XS.op rfl rfl (lb rfl) (RO.move rfl) <| XS.offB rfl rfl rfl rfl <| XS.offB rfl rfl rfl rfl <| XS.offB rfl rfl rfl rfl <| XS.offU rfl rfl rfl rfl <| XS.offU rfl rfl rfl rfl <| XS.offU rfl rfl rfl rfl <| XS.offU rfl rfl rfl rfl <| XS.offU rfl rfl rfl rfl <| XS.offU rfl rfl rfl rfl ?_
                refine XS.offU rfl rfl rfl rfl <| XS.offU rfl rfl rfl rfl <| XS.offU rfl rfl rfl rfl <| XS.offU rfl rfl rfl rfl <| XS.offB rfl rfl rfl rfl <| XS.op rfl rfl (lb rfl) (RO.pickT rfl rfl) <| XS.nil <| XQ.seq ?_
                refine XC.cond rfl (fun _ => ?_) (fun h => nomatch h)
                refine XC.seq <| XC.region <| oA rfl rfl <| XL.nil <| XQ.seq <| XC.ret ?_
                refine XQ.ret1 (fun _ _ h => h) rfl (RA.tmp rfl) ?s0 rfl
                case s0 => (first | rw [valid_false_c (L := L) (.inl (by omega))] | rw [valid_false_c (L := L) (.inr (.inl (by omega)))] | rw [valid_false_c (L := L) (.inr (.inr ⟨by omega, by assumption⟩))] | rw [valid_false (L := L) hlt (not_okAt hx (by omega))] | rw [valid_false (L := L) hlt (not_okAt' hx hy (by omega) (by dsimp only; omega))] | rw [valid_true (L := L) h0 h1 hcov (fun j hj => hn j (by simp only [List.length_map] at *; omega))]); exact (by repeat' constructor)
              ·
                replace c15 := prs c15
                first | refine XS.on rfl rfl rfl rfl (lb rfl) (RO.fieldOwn fo_69_1 rfl) ?_ | refine XS.on rfl rfl rfl rfl (lb rfl) (RO.fieldPel fo_69_1 rfl) ?_
                first | refine XS.on rfl rfl rfl rfl (lb rfl) (RO.loadOwn ag_3 rfl rfl rfl) ?_ | refine XS.on rfl rfl rfl rfl (lb rfl) (RO.loadPel ag_3 rfl rfl) ?_
                refine XS.on rfl rfl rfl rfl (lb rfl) (RO.cmp rfl rfl rfl) <| XS.op rfl rfl (lb rfl) (RO.pickF rfl rfl) <| XS.op rfl rfl (lb rfl) (RO.move rfl) ?_
                refine XS.case (d := 48) rfl (fun c16 => ?_) (fun c16 => ?_)
                ·
                  replace c16 := prs c16
                  refine XS.offB rfl rfl rfl rfl <| XS.offB rfl rfl rfl rfl <| XS.offB rfl rfl rfl rfl <| XS.offU rfl rfl rfl rfl <| XS.offU rfl rfl rfl rfl <| XS.offU rfl rfl rfl rfl <| XS.offU rfl rfl rfl rfl <| XS.offU rfl rfl rfl rfl <| XS.offU rfl rfl rfl rfl <| XS.offU rfl rfl rfl rfl <| XS.offU rfl rfl rfl rfl <| XS.offU rfl rfl rfl rfl <| XS.offU rfl rfl rfl rfl <| XS.offB rfl rfl rfl rfl ?_
                  refine XS.op rfl rfl (lb rfl) (RO.pickT rfl rfl) <| XS.nil <| XQ.seq ?_
                  refine XC.cond rfl (fun _ => ?_) (fun h => nomatch h)
                  refine XC.seq <| XC.region <| oA rfl rfl <| XL.nil <| XQ.seq <| XC.ret ?_
                  refine XQ.ret1 (fun _ _ h => h) rfl (RA.tmp rfl) ?s0 rfl
                  case s0 => (first | rw [valid_false_c (L := L) (.inl (by omega))] | rw [valid_false_c (L := L) (.inr (.inl (by omega)))] | rw [valid_false_c (L := L) (.inr (.inr ⟨by omega, by assumption⟩))] | rw [valid_false (L := L) hlt (not_okAt hx (by omega))] | rw [valid_false (L := L) hlt (not_okAt' hx hy (by omega) (by dsimp only; omega))] | rw [valid_true (L := L) h0 h1 hcov (fun j hj => hn j (by simp only [List.length_map] at *; omega))]); exact (by repeat' constructor)
                ·
                  replace c16 := prs c16
                  refine XS.on rfl rfl rfl rfl (lb rfl) (RO.move rfl) <| XS.on rfl rfl rfl rfl (lb rfl) (RO.cmp rfl rfl rfl) <| XS.on rfl rfl rfl rfl (lb rfl) (RO.move rfl) ?_
                  refine XS.case (d := 51) rfl (fun c17 => ?_) (fun c17 => ?_)
                  ·
                    replace c17 := prs c17
                    first | refine XS.on rfl rfl rfl rfl (lb rfl) (RO.fieldOwn fo_24_1 rfl) ?_ | refine XS.on rfl rfl rfl rfl (lb rfl) (RO.fieldPel fo_24_1 rfl) ?_
                    first | refine XS.on rfl rfl rfl rfl (lb rfl) (RO.loadOwn ag_22 rfl rfl rfl) ?_ | refine XS.on rfl rfl rfl rfl (lb rfl) (RO.loadPel ag_22 rfl rfl) ?_
                    refine XS.on rfl rfl rfl rfl (lb rfl) (RO.move rfl) ?_
                    refine XS.on rfl rfl rfl rfl (lb rfl) (RO.arith rfl rfl rfl (by omega) (by omega)) ?_
                    obtain ⟨⟨y1, y2⟩, hy⟩ : ∃ y, L.vs[k - 1]? = some y := ⟨_, List.getElem?_eq_getElem (by omega)⟩
                    refine XS.on rfl rfl rfl rfl (lb rfl) (RO.index sl_22 rfl (by repeat' constructor) rfl (show (k : Int) - 1 = ((k - 1 : Nat) : Int) by omega) (map_get hy)) ?_
                    first | refine XS.on rfl rfl rfl rfl (lb rfl) (RO.fieldOwn fo_69_0 rfl) ?_ | refine XS.on rfl rfl rfl rfl (lb rfl) (RO.fieldPel fo_69_0 rfl) ?_
                    first | refine XS.on rfl rfl rfl rfl (lb rfl) (RO.loadOwn ag_3 rfl rfl rfl) ?_ | refine XS.on rfl rfl rfl rfl (lb rfl) (RO.loadPel ag_3 rfl rfl) ?_
                    first | refine XS.on rfl rfl rfl rfl (lb rfl) (RO.fieldOwn fo_69_0 rfl) ?_ | refine XS.on rfl rfl rfl rfl (lb rfl) (RO.fieldPel fo_69_0 rfl) ?_
                    first | refine XS.on rfl rfl rfl rfl (lb rfl) (RO.loadOwn ag_3 rfl rfl rfl) ?_ | refine XS.on rfl rfl rfl rfl (lb rfl) (RO.loadPel ag_3 rfl rfl) ?_
                    refine XS.on rfl rfl rfl rfl (lb rfl) (RO.cmp rfl rfl rfl) <| XS.on rfl rfl rfl rfl (lb rfl) (RO.pickT rfl rfl) <| XS.op rfl rfl (lb rfl) (RO.pickF rfl rfl) <| XS.nil <| XQ.seq ?_
                    refine XC.cond rfl (fun c18 => ?_) (fun c18 => ?_)
                    ·
                      replace c18 := prs c18
                      refine XC.seq <| XC.region <| oA rfl rfl <| XL.nil <| XQ.seq <| XC.ret ?_
                      refine XQ.ret1 (fun _ _ h => h) rfl (RA.tmp rfl) ?s0 rfl
                      case s0 => (first | rw [valid_false_c (L := L) (.inl (by omega))] | rw [valid_false_c (L := L) (.inr (.inl (by omega)))] | rw [valid_false_c (L := L) (.inr (.inr ⟨by omega, by assumption⟩))] | rw [valid_false (L := L) hlt (not_okAt hx (by omega))] | rw [valid_false (L := L) hlt (not_okAt' hx hy (by omega) (by dsimp only; omega))] | rw [valid_true (L := L) h0 h1 hcov (fun j hj => hn j (by simp only [List.length_map] at *; omega))]); exact (by repeat' constructor)
                    ·
                      replace c18 := prs c18
                      refine XC.skip <| XQ.inBlock <| XQ.seq <| XC.region ?_
                      refine XL.op rfl (XO.of_ro rfl (lb rfl) (RO.arith rfl rfl rfl (by omega) (by omega))) ?_
                      refine oM rfl rfl <| XL.nil ?_
                      refine XQ.next (k + 1) ⟨(by repeat' constructor), (by repeat' constructor), (by repeat (first | exact trivial | refine ⟨(by intro T h; first | (cases h; rfl) | cases h), ?_⟩)), (lb rfl), Nat.zero_le _, rfl, rfl, (by simp [tmBelow, TV.below, AV.below, CA.below]), (by simp [hpBelow, HB.below, CA.below]), (by simp [tkBelow]), (by simp)⟩ ⟨by omega, ?_⟩ (by omega)
                      intro j hj
                      rcases Nat.lt_or_ge j k with h | h
                      · exact hn j h
                      · obtain rfl : j = k := by omega
                        first | exact is_okAt hx (by omega) (by omega) (by omega) (by omega) (fun y1 y2 h0 h => by omega) | exact is_okAt hx (by omega) (by omega) (by omega) (by omega) (fun y1 y2 _ h => by rw [hy] at h; cases h; omega)
                  ·
                    replace c17 := prs c17
                    refine XS.offB rfl rfl rfl rfl <| XS.offB rfl rfl rfl rfl <| XS.offB rfl rfl rfl rfl <| XS.offB rfl rfl rfl rfl <| XS.offB rfl rfl rfl rfl <| XS.offB rfl rfl rfl rfl <| XS.offB rfl rfl rfl rfl <| XS.offB rfl rfl rfl rfl <| XS.offB rfl rfl rfl rfl <| XS.offB rfl rfl rfl rfl <| XS.on rfl rfl rfl rfl (lb rfl) (RO.pickF rfl rfl) <| XS.op rfl rfl (lb rfl) (RO.pickF rfl rfl) <| XS.nil <| XQ.seq ?_
                    refine XC.cond rfl (fun h => nomatch h) (fun _ => ?_)
                    refine XC.skip <| XQ.inBlock <| XQ.seq <| XC.region ?_
                    refine XL.op rfl (XO.of_ro rfl (lb rfl) (RO.arith rfl rfl rfl (by omega) (by omega))) ?_
                    refine oM rfl rfl <| XL.nil ?_
                    refine XQ.next (k + 1) ⟨(by repeat' constructor), (by repeat' constructor), (by repeat (first | exact trivial | refine ⟨(by intro T h; first | (cases h; rfl) | cases h), ?_⟩)), (lb rfl), Nat.zero_le _, rfl, rfl, (by simp [tmBelow, TV.below, AV.below, CA.below]), (by simp [hpBelow, HB.below, CA.below]), (by simp [tkBelow]), (by simp)⟩ ⟨by omega, ?_⟩ (by omega)
                    intro j hj
                    rcases Nat.lt_or_ge j k with h | h
                    · exact hn j h
                    · obtain rfl : j = k := by omega
                      first | exact is_okAt hx (by omega) (by omega) (by omega) (by omega) (fun y1 y2 h0 h => by omega) | exact is_okAt hx (by omega) (by omega) (by omega) (by omega) (fun y1 y2 _ h => by rw [hy] at h; cases h; omega)
        ·
          replace c12 := prs c12
          refine XC.exit <| XQ.thenE <| XQ.thenE <| XQ.blockX <| XQ.seq <| XC.seq <| XC.region <| oA rfl rfl <| XL.nil <| XQ.seq <| XC.ret ?_
          refine XQ.ret1 (fun _ _ h => h) rfl (RA.tmp rfl) ?s0 rfl
          case s0 => (first | rw [valid_false_c (L := L) (.inl (by omega))] | rw [valid_false_c (L := L) (.inr (.inl (by omega)))] | rw [valid_false_c (L := L) (.inr (.inr ⟨by omega, by assumption⟩))] | rw [valid_false (L := L) hlt (not_okAt hx (by omega))] | rw [valid_false (L := L) hlt (not_okAt' hx hy (by omega) (by dsimp only; omega))] | rw [valid_true (L := L) h0 h1 hcov (fun j hj => hn j (by simp only [List.length_map] at *; omega))]); exact (by repeat' constructor)

set_option maxRecDepth 100000 in
set_option maxHeartbeats 1000000 in
theorem validR_fun (L : Lvl) (hlen : L.vs.length ≤ 100000) : Fun Tryz.prog 20 [lvlA L] (TB (validB L)) := by
  refine Fun.of_body 9 67 Tryz.func20 rfl en_20 rfl (lb rfl) (fun S w => ?_)
  simp only [entry]
  refine XC.seq <| XC.region <| XL.op rfl (XO.box rfl (lb rfl)) <| oA rfl rfl <| XL.nil <| XQ.seq <| XC.seq <| XC.seq <| XC.region ?_
  first | refine oR rfl rfl rfl (RO.fieldOwn fo_24_0 rfl) ?_ | refine oR rfl rfl rfl (RO.fieldPel fo_24_0 rfl) ?_
  first | refine oR rfl rfl rfl (RO.loadOwn ag_3 rfl rfl rfl) ?_ | refine oR rfl rfl rfl (RO.loadPel ag_3 rfl rfl) ?_
  refine oR rfl rfl rfl (RO.cmp rfl rfl rfl) <| oM rfl rfl ?_
  refine XL.case (d := 8) rfl (fun c1 => ?_) (fun c1 => ?_)
  ·
    replace c1 := prs c1
    refine XL.offB rfl rfl rfl rfl <| XL.offB rfl rfl rfl rfl <| XL.offB rfl rfl rfl rfl <| oR rfl rfl rfl (RO.pickT rfl rfl) <| XL.nil <| XQ.seq ?_
    refine XC.cond rfl (fun _ => ?_) (fun h => nomatch h)
    refine XC.seq <| XC.region <| oA rfl rfl <| XL.nil <| XQ.seq <| XC.ret ?_
    refine XQ.ret1 (fun _ _ h => h) rfl (RA.tmp rfl) ?s0 rfl
    case s0 => (first | rw [valid_false_c (L := L) (.inl (by omega))] | rw [valid_false_c (L := L) (.inr (.inl (by omega)))] | rw [valid_false (L := L) hlt (not_okAt hx (by omega))] | rw [valid_false (L := L) hlt (not_okAt' hx hy (by omega) (by dsimp only; omega))] | rw [valid_false_c (L := L) (.inr (.inr ⟨by omega, cov_at hx (by omega)⟩))] | rw [valid_true (L := L) h0 h1 (cov_of (fun j x hj hx hc => (hn j (by simp only [List.length_map] at *; omega)).2 x hx hc)) (fun j hj => (hn j (by simp only [List.length_map] at *; omega)).1)]); exact (by repeat' constructor)
  ·
    replace c1 := prs c1
    first | refine nR rfl rfl rfl rfl rfl (RO.fieldOwn fo_24_0 rfl) ?_ | refine nR rfl rfl rfl rfl rfl (RO.fieldPel fo_24_0 rfl) ?_
    first | refine nR rfl rfl rfl rfl rfl (RO.loadOwn ag_3 rfl rfl rfl) ?_ | refine nR rfl rfl rfl rfl rfl (RO.loadPel ag_3 rfl rfl) ?_
    refine nR rfl rfl rfl rfl rfl (RO.cmp rfl rfl rfl) <| oR rfl rfl rfl (RO.pickF rfl rfl) <| XL.nil <| XQ.seq ?_
    refine XC.cond rfl (fun c2 => ?_) (fun c2 => ?_)
    ·
      replace c2 := prs c2
      refine XC.seq <| XC.region <| oA rfl rfl <| XL.nil <| XQ.seq <| XC.ret ?_
      refine XQ.ret1 (fun _ _ h => h) rfl (RA.tmp rfl) ?s0 rfl
      case s0 => (first | rw [valid_false_c (L := L) (.inl (by omega))] | rw [valid_false_c (L := L) (.inr (.inl (by omega)))] | rw [valid_false (L := L) hlt (not_okAt hx (by omega))] | rw [valid_false (L := L) hlt (not_okAt' hx hy (by omega) (by dsimp only; omega))] | rw [valid_false_c (L := L) (.inr (.inr ⟨by omega, cov_at hx (by omega)⟩))] | rw [valid_true (L := L) h0 h1 (cov_of (fun j x hj hx hc => (hn j (by simp only [List.length_map] at *; omega)).2 x hx hc)) (fun j hj => (hn j (by simp only [List.length_map] at *; omega)).1)]); exact (by repeat' constructor)
    ·
      replace c2 := prs c2
      refine XC.skip <| XQ.seq <| XC.seq <| XC.seq ?_
      have h0 : 0 ≤ L.c := by omega
      have h1 : L.c ≤ 100 := by omega
      refine XC.region <| oA rfl rfl <| XL.nil <| XQ.seq <| XC.block ?_
      refine XC.loop (X := Nat) (fun k => ⟨[(1, .v (.one (.ptr 0 0))), (3, TI k)], [(0, .cells 24 [.d (.v (.int .i64 L.c)), .d (vsC L.vs)])], [], 1, 67, []⟩) (fun k => k ≤ L.vs.length ∧ ∀ (j : Nat), j < k → okAt L.vs j ∧ ∀ x, L.vs[j]? = some x → 0 < L.c → x.2 < L.c) (fun k => L.vs.length - k) 0 ⟨(by repeat' constructor), (by repeat' constructor), (by repeat (first | exact trivial | refine ⟨(by intro T h; first | (cases h; rfl) | cases h), ?_⟩)), (lb rfl), Nat.zero_le _, rfl, rfl, (by simp [tmBelow, TV.below, AV.below, CA.below]), (by simp [hpBelow, HB.below, CA.below]), (by simp [tkBelow]), (by simp)⟩ ⟨Nat.zero_le _, fun j h => absurd h (Nat.not_lt_zero j)⟩ ?_
      rintro k ⟨hk, hn⟩
      try dsimp only
      refine XC.seq <| XC.seq <| XC.region <| oM rfl rfl ?_
      first | refine oR rfl rfl rfl (RO.fieldOwn fo_24_1 rfl) ?_ | refine oR rfl rfl rfl (RO.fieldPel fo_24_1 rfl) ?_
      first | refine oR rfl rfl rfl (RO.loadOwn ag_22 rfl rfl rfl) ?_ | refine oR rfl rfl rfl (RO.loadPel ag_22 rfl rfl) ?_
      refine XL.op rfl (XO.of_ro rfl (lb rfl) (RO.len sl_22 rfl (by repeat' constructor))) ?_
      refine oR rfl rfl rfl (RO.cmp rfl rfl rfl) <| XL.nil <| XQ.seq ?_
      refine XC.cond rfl (fun c3 => ?_) (fun c3 => ?_)
      ·
        replace c3 := prs c3
        simp only [List.length_map] at c3
        have hlt : k < L.vs.length := by omega
        obtain ⟨⟨x1, x2⟩, hx⟩ : ∃ x, L.vs[k]? = some x := ⟨_, List.getElem?_eq_getElem hlt⟩
        refine XC.skip <| XQ.seq <| XC.seq <| XC.block <| XC.seq <| XC.region ?_
        first | refine oR rfl rfl rfl (RO.fieldOwn fo_24_1 rfl) ?_ | refine oR rfl rfl rfl (RO.fieldPel fo_24_1 rfl) ?_
        first | refine oR rfl rfl rfl (RO.loadOwn ag_22 rfl rfl rfl) ?_ | refine oR rfl rfl rfl (RO.loadPel ag_22 rfl rfl) ?_
        refine oM rfl rfl ?_
        refine XL.op rfl (XO.of_ro rfl (lb rfl) (RO.index sl_22 rfl (by repeat' constructor) rfl rfl (map_get hx))) ?_
        first | refine oR rfl rfl rfl (RO.loadOwnAgg ag_69 rfl rfl rfl rfl) ?_ | refine oR rfl rfl rfl (RO.loadPelAgg ag_69 rfl rfl rfl) ?_
        refine XL.op rfl (XO.alloc z_69 rfl (lb rfl)) <| XL.op rfl (XO.store ag_69 rfl rfl rfl rfl (lb rfl) rfl) <| XL.nil <| XQ.seq <| XC.seq <| XC.seq <| XC.region ?_
        first | refine oR rfl rfl rfl (RO.fieldOwn fo_69_0 rfl) ?_ | refine oR rfl rfl rfl (RO.fieldPel fo_69_0 rfl) ?_
        first | refine oR rfl rfl rfl (RO.loadOwn ag_3 rfl rfl rfl) ?_ | refine oR rfl rfl rfl (RO.loadPel ag_3 rfl rfl) ?_
        refine oR rfl rfl rfl (RO.cmp rfl rfl rfl) <| oM rfl rfl ?_
        refine XL.case (d := 28) rfl (fun c4 => ?_) (fun c4 => ?_)
        ·
          replace c4 := prs c4
          refine XL.offB rfl rfl rfl rfl <| XL.offB rfl rfl rfl rfl <| XL.offB rfl rfl rfl rfl <| oR rfl rfl rfl (RO.pickT rfl rfl) <| oM rfl rfl <| XL.offB rfl rfl rfl rfl <| XL.offB rfl rfl rfl rfl <| XL.offB rfl rfl rfl rfl <| oR rfl rfl rfl (RO.pickT rfl rfl) <| oM rfl rfl <| XL.offB rfl rfl rfl rfl <| XL.offB rfl rfl rfl rfl <| XL.offB rfl rfl rfl rfl <| oR rfl rfl rfl (RO.pickT rfl rfl) ?_
          refine XL.nil <| XQ.seq ?_
          refine XC.cond rfl (fun _ => ?_) (fun h => nomatch h)
          refine XC.seq <| XC.region <| oA rfl rfl <| XL.nil <| XQ.seq <| XC.ret ?_
          refine XQ.ret1 (fun _ _ h => h) rfl (RA.tmp rfl) ?s0 rfl
          case s0 => (first | rw [valid_false_c (L := L) (.inl (by omega))] | rw [valid_false_c (L := L) (.inr (.inl (by omega)))] | rw [valid_false (L := L) hlt (not_okAt hx (by omega))] | rw [valid_false (L := L) hlt (not_okAt' hx hy (by omega) (by dsimp only; omega))] | rw [valid_false_c (L := L) (.inr (.inr ⟨by omega, cov_at hx (by omega)⟩))] | rw [valid_true (L := L) h0 h1 (cov_of (fun j x hj hx hc => (hn j (by simp only [List.length_map] at *; omega)).2 x hx hc)) (fun j hj => (hn j (by simp only [List.length_map] at *; omega)).1)]); exact (by repeat' constructor)
        ·
          replace c4 := prs c4
          first | refine nR rfl rfl rfl rfl rfl (RO.fieldOwn fo_69_0 rfl) ?_ | refine nR rfl rfl rfl rfl rfl (RO.fieldPel fo_69_0 rfl) ?_
          first | refine nR rfl rfl rfl rfl rfl (RO.loadOwn ag_3 rfl rfl rfl) ?_ | refine nR rfl rfl rfl rfl rfl (RO.loadPel ag_3 rfl rfl) ?_
          refine nR rfl rfl rfl rfl rfl (RO.cmp rfl rfl rfl) <| oR rfl rfl rfl (RO.pickF rfl rfl) <| oM rfl rfl ?_
          refine XL.case (d := 33) rfl (fun c5 => ?_) (fun c5 => ?_)
          ·
            replace c5 := prs c5
            refine XL.offB rfl rfl rfl rfl <| XL.offB rfl rfl rfl rfl <| XL.offB rfl rfl rfl rfl <| oR rfl rfl rfl (RO.pickT rfl rfl) <| oM rfl rfl <| XL.offB rfl rfl rfl rfl <| XL.offB rfl rfl rfl rfl <| XL.offB rfl rfl rfl rfl <| oR rfl rfl rfl (RO.pickT rfl rfl) <| XL.nil <| XQ.seq ?_
            refine XC.cond rfl (fun _ => ?_) (fun h => nomatch h)
            refine XC.seq <| XC.region <| oA rfl rfl <| XL.nil <| XQ.seq <| XC.ret ?_
            refine XQ.ret1 (fun _ _ h => h) rfl (RA.tmp rfl) ?s0 rfl
            case s0 => (first | rw [valid_false_c (L := L) (.inl (by omega))] | rw [valid_false_c (L := L) (.inr (.inl (by omega)))] | rw [valid_false (L := L) hlt (not_okAt hx (by omega))] | rw [valid_false (L := L) hlt (not_okAt' hx hy (by omega) (by dsimp only; omega))] | rw [valid_false_c (L := L) (.inr (.inr ⟨by omega, cov_at hx (by omega)⟩))] | rw [valid_true (L := L) h0 h1 (cov_of (fun j x hj hx hc => (hn j (by simp only [List.length_map] at *; omega)).2 x hx hc)) (fun j hj => (hn j (by simp only [List.length_map] at *; omega)).1)]); exact (by repeat' constructor)
          ·
            replace c5 := prs c5
            first | refine nR rfl rfl rfl rfl rfl (RO.fieldOwn fo_69_1 rfl) ?_ | refine nR rfl rfl rfl rfl rfl (RO.fieldPel fo_69_1 rfl) ?_
            first | refine nR rfl rfl rfl rfl rfl (RO.loadOwn ag_3 rfl rfl rfl) ?_ | refine nR rfl rfl rfl rfl rfl (RO.loadPel ag_3 rfl rfl) ?_
            refine nR rfl rfl rfl rfl rfl (RO.cmp rfl rfl rfl) <| oR rfl rfl rfl (RO.pickF rfl rfl) <| oM rfl rfl ?_
            refine XL.case (d := 38) rfl (fun c6 => ?_) (fun c6 => ?_)
            ·
              replace c6 := prs c6
              refine XL.offB rfl rfl rfl rfl <| XL.offB rfl rfl rfl rfl <| XL.offB rfl rfl rfl rfl <| oR rfl rfl rfl (RO.pickT rfl rfl) <| XL.nil <| XQ.seq ?_
              refine XC.cond rfl (fun _ => ?_) (fun h => nomatch h)
              refine XC.seq <| XC.region <| oA rfl rfl <| XL.nil <| XQ.seq <| XC.ret ?_
              refine XQ.ret1 (fun _ _ h => h) rfl (RA.tmp rfl) ?s0 rfl
              case s0 => (first | rw [valid_false_c (L := L) (.inl (by omega))] | rw [valid_false_c (L := L) (.inr (.inl (by omega)))] | rw [valid_false (L := L) hlt (not_okAt hx (by omega))] | rw [valid_false (L := L) hlt (not_okAt' hx hy (by omega) (by dsimp only; omega))] | rw [valid_false_c (L := L) (.inr (.inr ⟨by omega, cov_at hx (by omega)⟩))] | rw [valid_true (L := L) h0 h1 (cov_of (fun j x hj hx hc => (hn j (by simp only [List.length_map] at *; omega)).2 x hx hc)) (fun j hj => (hn j (by simp only [List.length_map] at *; omega)).1)]); exact (by repeat' constructor)
            ·
              replace c6 := prs c6
              first | refine nR rfl rfl rfl rfl rfl (RO.fieldOwn fo_69_1 rfl) ?_ | refine nR rfl rfl rfl rfl rfl (RO.fieldPel fo_69_1 rfl) ?_
              first | refine nR rfl rfl rfl rfl rfl (RO.loadOwn ag_3 rfl rfl rfl) ?_ | refine nR rfl rfl rfl rfl rfl (RO.loadPel ag_3 rfl rfl) ?_
              refine nR rfl rfl rfl rfl rfl (RO.cmp rfl rfl rfl) <| oR rfl rfl rfl (RO.pickF rfl rfl) <| XL.nil <| XQ.seq ?_
              refine XC.cond rfl (fun c7 => ?_) (fun c7 => ?_)
              ·
                replace c7 := prs c7
                refine XC.seq <| XC.region <| oA rfl rfl <| XL.nil <| XQ.seq <| XC.ret ?_
                refine XQ.ret1 (fun _ _ h => h) rfl (RA.tmp rfl) ?s0 rfl
                case s0 => (first | rw [valid_false_c (L := L) (.inl (by omega))] | rw [valid_false_c (L := L) (.inr (.inl (by omega)))] | rw [valid_false (L := L) hlt (not_okAt hx (by omega))] | rw [valid_false (L := L) hlt (not_okAt' hx hy (by omega) (by dsimp only; omega))] | rw [valid_false_c (L := L) (.inr (.inr ⟨by omega, cov_at hx (by omega)⟩))] | rw [valid_true (L := L) h0 h1 (cov_of (fun j x hj hx hc => (hn j (by simp only [List.length_map] at *; omega)).2 x hx hc)) (fun j hj => (hn j (by simp only [List.length_map] at *; omega)).1)]); exact (by repeat' constructor)
              ·
                replace c7 := prs c7
                refine XC.skip <| XQ.seq <| XC.seq <| XC.seq ?_
                refine XC.draw mixed (by kernel_rfl) ?_
                refine XS.op rfl rfl (lb rfl) (RO.move rfl) <| XS.op rfl rfl (lb rfl) (RO.cmp rfl rfl rfl) <| XS.op rfl rfl (lb rfl) (RO.move rfl) ?_
                refine XS.case (d := 45) rfl (fun c8 => ?_) (fun c8 => ?_)
                ·
                  replace c8 := prs c8
                  first | refine XS.on rfl rfl rfl rfl (lb rfl) (RO.fieldOwn fo_24_1 rfl) ?_ | refine XS.on rfl rfl rfl rfl (lb rfl) (RO.fieldPel fo_24_1 rfl) ?_
                  first | refine XS.on rfl rfl rfl rfl (lb rfl) (RO.loadOwn ag_22 rfl rfl rfl) ?_ | refine XS.on rfl rfl rfl rfl (lb rfl) (RO.loadPel ag_22 rfl rfl) ?_
                  refine XS.on rfl rfl rfl rfl (lb rfl) (RO.move rfl) ?_
                  refine XS.on rfl rfl rfl rfl (lb rfl) (RO.arith rfl rfl rfl (by omega) (by omega)) ?_
                  obtain ⟨⟨y1, y2⟩, hy⟩ : ∃ y, L.vs[k - 1]? = some y := ⟨_, List.getElem?_eq_getElem (by omega)⟩
                  refine XS.on rfl rfl rfl rfl (lb rfl) (RO.index sl_22 rfl (by repeat' constructor) rfl (show (k : Int) - 1 = ((k - 1 : Nat) : Int) by omega) (map_get hy)) ?_
                  first | refine XS.on rfl rfl rfl rfl (lb rfl) (RO.fieldOwn fo_69_0 rfl) ?_ | refine XS.on rfl rfl rfl rfl (lb rfl) (RO.fieldPel fo_69_0 rfl) ?_
                  first | refine XS.on rfl rfl rfl rfl (lb rfl) (RO.loadOwn ag_3 rfl rfl rfl) ?_ | refine XS.on rfl rfl rfl rfl (lb rfl) (RO.loadPel ag_3 rfl rfl) ?_
                  first | refine XS.on rfl rfl rfl rfl (lb rfl) (RO.fieldOwn fo_69_0 rfl) ?_ | refine XS.on rfl rfl rfl rfl (lb rfl) (RO.fieldPel fo_69_0 rfl) ?_
                  first | refine XS.on rfl rfl rfl rfl (lb rfl) (RO.loadOwn ag_3 rfl rfl rfl) ?_ | refine XS.on rfl rfl rfl rfl (lb rfl) (RO.loadPel ag_3 rfl rfl) ?_
                  refine XS.on rfl rfl rfl rfl (lb rfl) (RO.cmp rfl rfl rfl) <| XS.op rfl rfl (lb rfl) (RO.pickT rfl rfl) <| XS.nil <| XQ.seq ?_
                  refine XC.cond rfl (fun c9 => ?_) (fun c9 => ?_)
                  ·
                    replace c9 := prs c9
                    refine XC.seq <| XC.region <| oA rfl rfl <| XL.nil <| XQ.seq <| XC.ret ?_
                    refine XQ.ret1 (fun _ _ h => h) rfl (RA.tmp rfl) ?s0 rfl
                    case s0 => (first | rw [valid_false_c (L := L) (.inl (by omega))] | rw [valid_false_c (L := L) (.inr (.inl (by omega)))] | rw [valid_false (L := L) hlt (not_okAt hx (by omega))] | rw [valid_false (L := L) hlt (not_okAt' hx hy (by omega) (by dsimp only; omega))] | rw [valid_false_c (L := L) (.inr (.inr ⟨by omega, cov_at hx (by omega)⟩))] | rw [valid_true (L := L) h0 h1 (cov_of (fun j x hj hx hc => (hn j (by simp only [List.length_map] at *; omega)).2 x hx hc)) (fun j hj => (hn j (by simp only [List.length_map] at *; omega)).1)]); exact (by repeat' constructor)
                  ·
                    replace c9 := prs c9
                    refine XC.skip <| XQ.seq <| XC.seq <| XC.region ?_
                    first | refine oR rfl rfl rfl (RO.fieldOwn fo_24_0 rfl) ?_ | refine oR rfl rfl rfl (RO.fieldPel fo_24_0 rfl) ?_
                    first | refine oR rfl rfl rfl (RO.loadOwn ag_3 rfl rfl rfl) ?_ | refine oR rfl rfl rfl (RO.loadPel ag_3 rfl rfl) ?_
                    refine oR rfl rfl rfl (RO.cmp rfl rfl rfl) <| oM rfl rfl ?_
                    refine XL.case (d := 60) rfl (fun c10 => ?_) (fun c10 => ?_)
                    ·
                      replace c10 := prs c10
                      first | refine nR rfl rfl rfl rfl rfl (RO.fieldOwn fo_69_1 rfl) ?_ | refine nR rfl rfl rfl rfl rfl (RO.fieldPel fo_69_1 rfl) ?_
                      first | refine nR rfl rfl rfl rfl rfl (RO.loadOwn ag_3 rfl rfl rfl) ?_ | refine nR rfl rfl rfl rfl rfl (RO.loadPel ag_3 rfl rfl) ?_
                      first | refine nR rfl rfl rfl rfl rfl (RO.fieldOwn fo_24_0 rfl) ?_ | refine nR rfl rfl rfl rfl rfl (RO.fieldPel fo_24_0 rfl) ?_
                      first | refine nR rfl rfl rfl rfl rfl (RO.loadOwn ag_3 rfl rfl rfl) ?_ | refine nR rfl rfl rfl rfl rfl (RO.loadPel ag_3 rfl rfl) ?_
                      refine nR rfl rfl rfl rfl rfl (RO.cmp rfl rfl rfl) <| oR rfl rfl rfl (RO.pickT rfl rfl) <| XL.nil <| XQ.seq ?_
                      refine XC.cond rfl (fun c11 => ?_) (fun c11 => ?_)
                      ·
                        replace c11 := prs c11
                        refine XC.seq <| XC.region <| oA rfl rfl <| XL.nil <| XQ.seq <| XC.ret ?_
                        refine XQ.ret1 (fun _ _ h => h) rfl (RA.tmp rfl) ?s0 rfl
                        case s0 => (first | rw [valid_false_c (L := L) (.inl (by omega))] | rw [valid_false_c (L := L) (.inr (.inl (by omega)))] | rw [valid_false (L := L) hlt (not_okAt hx (by omega))] | rw [valid_false (L := L) hlt (not_okAt' hx hy (by omega) (by dsimp only; omega))] | rw [valid_false_c (L := L) (.inr (.inr ⟨by omega, cov_at hx (by omega)⟩))] | rw [valid_true (L := L) h0 h1 (cov_of (fun j x hj hx hc => (hn j (by simp only [List.length_map] at *; omega)).2 x hx hc)) (fun j hj => (hn j (by simp only [List.length_map] at *; omega)).1)]); exact (by repeat' constructor)
                      ·
                        replace c11 := prs c11
                        refine XC.skip <| XQ.inBlock <| XQ.seq <| XC.region <| oM rfl rfl ?_
                        refine XL.op rfl (XO.of_ro rfl (lb rfl) (RO.arith rfl rfl rfl (by omega) (by omega))) ?_
                        refine oA rfl rfl <| XL.nil ?_
                        refine XQ.next (k + 1) ⟨(by repeat' constructor), (by repeat' constructor), (by repeat (first | exact trivial | refine ⟨(by intro T h; first | (cases h; rfl) | cases h), ?_⟩)), (lb rfl), Nat.zero_le _, rfl, rfl, (by simp [tmBelow, TV.below, AV.below, CA.below]), (by simp [hpBelow, HB.below, CA.below]), (by simp [tkBelow]), (by simp)⟩ ⟨by omega, ?_⟩ (by omega)
                        intro j hj
                        rcases Nat.lt_or_ge j k with h | h
                        · exact hn j h
                        · obtain rfl : j = k := by omega
                          refine ⟨?_, fun x h hc => by rw [hx] at h; cases h; dsimp only; omega⟩
                          first | exact is_okAt hx (by omega) (by omega) (by omega) (by omega) (fun y1 y2 h0 h => by omega) | exact is_okAt hx (by omega) (by omega) (by omega) (by omega) (fun y1 y2 _ h => by rw [hy] at h; cases h; omega)
                    ·
                      replace c10 := prs c10
                      refine XL.offB rfl rfl rfl rfl <| XL.offB rfl rfl rfl rfl <| XL.offB rfl rfl rfl rfl <| XL.offB rfl rfl rfl rfl <| XL.offB rfl rfl rfl rfl <| oR rfl rfl rfl (RO.pickF rfl rfl) <| XL.nil <| XQ.seq ?_
                      refine XC.cond rfl (fun h => nomatch h) (fun _ => ?_)
                      refine XC.skip <| XQ.inBlock <| XQ.seq <| XC.region <| oM rfl rfl ?_
                      refine XL.op rfl (XO.of_ro rfl (lb rfl) (RO.arith rfl rfl rfl (by omega) (by omega))) ?_
                      refine oA rfl rfl <| XL.nil ?_
                      refine XQ.next (k + 1) ⟨(by repeat' constructor), (by repeat' constructor), (by repeat (first | exact trivial | refine ⟨(by intro T h; first | (cases h; rfl) | cases h), ?_⟩)), (lb rfl), Nat.zero_le _, rfl, rfl, (by simp [tmBelow, TV.below, AV.below, CA.below]), (by simp [hpBelow, HB.below, CA.below]), (by simp [tkBelow]), (by simp)⟩ ⟨by omega, ?_⟩ (by omega)
                      intro j hj
                      rcases Nat.lt_or_ge j k with h | h
                      · exact hn j h
                      · obtain rfl : j = k := by omega
                        refine ⟨?_, fun x h hc => by rw [hx] at h; cases h; dsimp only; omega⟩
                        first | exact is_okAt hx (by omega) (by omega) (by omega) (by omega) (fun y1 y2 h0 h => by omega) | exact is_okAt hx (by omega) (by omega) (by omega) (by omega) (fun y1 y2 _ h => by rw [hy] at h; cases h; omega)
                ·
                  replace c8 := prs c8
                  refine XS.offB rfl rfl rfl rfl <| XS.offB rfl rfl rfl rfl <| XS.offB rfl rfl rfl rfl <| XS.offB rfl rfl rfl rfl <| XS.offB rfl rfl rfl rfl <| XS.offB rfl rfl rfl rfl <| XS.offB rfl rfl rfl rfl <| XS.offB rfl rfl rfl rfl <| XS.offB rfl rfl rfl rfl <| XS.offB rfl rfl rfl rfl <| XS.op rfl rfl (lb rfl) (RO.pickF rfl rfl) <| XS.nil <| XQ.seq ?_
                  refine XC.cond rfl (fun h => nomatch h) (fun _ => ?_)
                  refine XC.skip <| XQ.seq <| XC.seq <| XC.region ?_
                  first | refine oR rfl rfl rfl (RO.fieldOwn fo_24_0 rfl) ?_ | refine oR rfl rfl rfl (RO.fieldPel fo_24_0 rfl) ?_
                  first | refine oR rfl rfl rfl (RO.loadOwn ag_3 rfl rfl rfl) ?_ | refine oR rfl rfl rfl (RO.loadPel ag_3 rfl rfl) ?_
                  refine oR rfl rfl rfl (RO.cmp rfl rfl rfl) <| oM rfl rfl ?_
                  refine XL.case (d := 60) rfl (fun c12 => ?_) (fun c12 => ?_)
                  ·
                    replace c12 := prs c12
                    first | refine nR rfl rfl rfl rfl rfl (RO.fieldOwn fo_69_1 rfl) ?_ | refine nR rfl rfl rfl rfl rfl (RO.fieldPel fo_69_1 rfl) ?_
                    first | refine nR rfl rfl rfl rfl rfl (RO.loadOwn ag_3 rfl rfl rfl) ?_ | refine nR rfl rfl rfl rfl rfl (RO.loadPel ag_3 rfl rfl) ?_
                    first | refine nR rfl rfl rfl rfl rfl (RO.fieldOwn fo_24_0 rfl) ?_ | refine nR rfl rfl rfl rfl rfl (RO.fieldPel fo_24_0 rfl) ?_
                    first | refine nR rfl rfl rfl rfl rfl (RO.loadOwn ag_3 rfl rfl rfl) ?_ | refine nR rfl rfl rfl rfl rfl (RO.loadPel ag_3 rfl rfl) ?_
                    refine nR rfl rfl rfl rfl rfl (RO.cmp rfl rfl rfl) <| oR rfl rfl rfl (RO.pickT rfl rfl) <| XL.nil <| XQ.seq ?_
                    refine XC.cond rfl (fun c13 => ?_) (fun c13 => ?_)
                    ·
                      replace c13 := prs c13
                      refine XC.seq <| XC.region <| oA rfl rfl <| XL.nil <| XQ.seq <| XC.ret ?_
                      refine XQ.ret1 (fun _ _ h => h) rfl (RA.tmp rfl) ?s0 rfl
                      case s0 => (first | rw [valid_false_c (L := L) (.inl (by omega))] | rw [valid_false_c (L := L) (.inr (.inl (by omega)))] | rw [valid_false (L := L) hlt (not_okAt hx (by omega))] | rw [valid_false (L := L) hlt (not_okAt' hx hy (by omega) (by dsimp only; omega))] | rw [valid_false_c (L := L) (.inr (.inr ⟨by omega, cov_at hx (by omega)⟩))] | rw [valid_true (L := L) h0 h1 (cov_of (fun j x hj hx hc => (hn j (by simp only [List.length_map] at *; omega)).2 x hx hc)) (fun j hj => (hn j (by simp only [List.length_map] at *; omega)).1)]); exact (by repeat' constructor)
                    ·
                      replace c13 := prs c13
                      refine XC.skip <| XQ.inBlock <| XQ.seq <| XC.region <| oM rfl rfl ?_
                      refine XL.op rfl (XO.of_ro rfl (lb rfl) (RO.arith rfl rfl rfl (by omega) (by omega))) ?_
                      refine oA rfl rfl <| XL.nil ?_
                      refine XQ.next (k + 1) ⟨(by repeat' constructor), (by repeat' constructor), (by repeat (first | exact trivial | refine ⟨(by intro T h; first | (cases h; rfl) | cases h), ?_⟩)), (lb rfl), Nat.zero_le _, rfl, rfl, (by simp [tmBelow, TV.below, AV.below, CA.below]), (by simp [hpBelow, HB.below, CA.below]), (by simp [tkBelow]), (by simp)⟩ ⟨by omega, ?_⟩ (by omega)
                      intro j hj
                      rcases Nat.lt_or_ge j k with h | h
                      · exact hn j h
                      · obtain rfl : j = k := by omega
                        refine ⟨?_, fun x h hc => by rw [hx] at h; cases h; dsimp only; omega⟩
                        first | exact is_okAt hx (by omega) (by omega) (by omega) (by omega) (fun y1 y2 h0 h => by omega) | exact is_okAt hx (by omega) (by omega) (by omega) (by omega) (fun y1 y2 _ h => by rw [hy] at h; cases h; omega)
                  ·
                    replace c12 := prs c12
                    refine XL.offB rfl rfl rfl rfl <| XL.offB rfl rfl rfl rfl <| XL.offB rfl rfl rfl rfl <| XL.offB rfl rfl rfl rfl <| XL.offB rfl rfl rfl rfl <| oR rfl rfl rfl (RO.pickF rfl rfl) <| XL.nil <| XQ.seq ?_
                    refine XC.cond rfl (fun h => nomatch h) (fun _ => ?_)
                    refine XC.skip <| XQ.inBlock <| XQ.seq <| XC.region <| oM rfl rfl ?_
                    refine XL.op rfl (XO.of_ro rfl (lb rfl) (RO.arith rfl rfl rfl (by omega) (by omega))) ?_
                    refine oA rfl rfl <| XL.nil ?_
                    refine XQ.next (k + 1) ⟨(by repeat' constructor), (by repeat' constructor), (by repeat (first | exact trivial | refine ⟨(by intro T h; first | (cases h; rfl) | cases h), ?_⟩)), (lb rfl), Nat.zero_le _, rfl, rfl, (by simp [tmBelow, TV.below, AV.below, CA.below]), (by simp [hpBelow, HB.below, CA.below]), (by simp [tkBelow]), (by simp)⟩ ⟨by omega, ?_⟩ (by omega)
                    intro j hj
                    rcases Nat.lt_or_ge j k with h | h
                    · exact hn j h
                    · obtain rfl : j = k := by omega
                      refine ⟨?_, fun x h hc => by rw [hx] at h; cases h; dsimp only; omega⟩
                      first | exact is_okAt hx (by omega) (by omega) (by omega) (by omega) (fun y1 y2 h0 h => by omega) | exact is_okAt hx (by omega) (by omega) (by omega) (by omega) (fun y1 y2 _ h => by rw [hy] at h; cases h; omega)
      ·
        replace c3 := prs c3
        refine XC.exit <| XQ.thenE <| XQ.thenE <| XQ.blockX <| XQ.seq <| XC.seq <| XC.region <| oA rfl rfl <| XL.nil <| XQ.seq <| XC.ret ?_
        refine XQ.ret1 (fun _ _ h => h) rfl (RA.tmp rfl) ?s0 rfl
        case s0 => (first | rw [valid_false_c (L := L) (.inl (by omega))] | rw [valid_false_c (L := L) (.inr (.inl (by omega)))] | rw [valid_false (L := L) hlt (not_okAt hx (by omega))] | rw [valid_false (L := L) hlt (not_okAt' hx hy (by omega) (by dsimp only; omega))] | rw [valid_false_c (L := L) (.inr (.inr ⟨by omega, cov_at hx (by omega)⟩))] | rw [valid_true (L := L) h0 h1 (cov_of (fun j x hj hx hc => (hn j (by simp only [List.length_map] at *; omega)).2 x hx hc)) (fun j hj => (hn j (by simp only [List.length_map] at *; omega)).1)]); exact (by repeat' constructor)

set_option maxRecDepth 100000 in
theorem limited_fun (L : Lvl) (hlen : L.vs.length ≤ 100000) : Fun Tryz.prog 49 [lvlA L] (resLE (limL L)) := by
  refine Fun.of_body 9 26 Tryz.func49 rfl en_49 rfl (lb rfl) (fun S w => ?_)
  simp only [entry]
  refine XC.seq <| XC.region <| XL.op rfl (XO.box rfl (lb rfl)) <| XL.op rfl (XO.alloc z_24 rfl (lb rfl)) <| oA rfl rfl <| XL.nil <| XQ.seq <| XC.seq <| XC.seq <| XC.region ?_
  first | refine oR rfl rfl rfl (RO.fieldOwn fo_24_1 rfl) ?_ | refine oR rfl rfl rfl (RO.fieldPel fo_24_1 rfl) ?_
  first | refine oR rfl rfl rfl (RO.loadOwn ag_22 rfl rfl rfl) ?_ | refine oR rfl rfl rfl (RO.loadPel ag_22 rfl rfl) ?_
  refine XL.op rfl (XO.of_ro rfl (lb rfl) (RO.len sl_22 rfl (by repeat' constructor))) ?_
  refine oM rfl rfl <| XL.nil <| XQ.seq <| XC.block ?_
  refine XC.loop (X := Nat) (fun k => ⟨[(1, .v (.one (.ptr 0 0))), (2, .v (.one (.ptr 1 0))), (7, .v (.one (.d (vsC L.vs)))), (8, TI (L.vs.map lvC).length), (9, TI k)], [(0, .cells 24 [.d (.v (.int .i64 L.c)), .d (vsC L.vs)]), (1, .cells 24 [.d (.v (.int .i64 0)), .d (.v (.slice none 0 0))])], [], 2, 26, []⟩) (fun k => k ≤ L.vs.length ∧ ∀ (j : Nat) (x : LV), j < k → L.vs[j]? = some x → x.2 ≤ 100) (fun k => L.vs.length - k) 0 ⟨(by repeat' constructor), (by repeat' constructor), (by repeat (first | exact trivial | refine ⟨(by intro T h; first | (cases h; rfl) | cases h), ?_⟩)), (lb rfl), Nat.zero_le _, rfl, rfl, (by simp [tmBelow, TV.below, AV.below, CA.below]), (by simp [hpBelow, HB.below, CA.below]), (by simp [tkBelow]), (by simp)⟩ ⟨Nat.zero_le _, fun j x h => absurd h (Nat.not_lt_zero j)⟩ ?_
  rintro k ⟨hk, hn⟩
  try dsimp only
  refine XC.seq <| XC.region <| oR rfl rfl rfl (RO.cmp rfl rfl rfl) <| XL.nil <| XQ.seq <| XC.seq ?_
  refine XC.cond rfl (fun c1 => ?_) (fun c1 => ?_)
  ·
    replace c1 := prs c1
    simp only [List.length_map] at c1
    have hlt : k < L.vs.length := by omega
    obtain ⟨⟨x1, x2⟩, hx⟩ : ∃ x, L.vs[k]? = some x := ⟨_, List.getElem?_eq_getElem hlt⟩
    refine XC.skip <| XQ.seq <| XC.seq <| XC.block <| XC.seq <| XC.region ?_
    refine XL.op rfl (XO.of_ro rfl (lb rfl) (RO.index sl_22 rfl (by repeat' constructor) rfl rfl (map_get hx))) ?_
    first | refine oR rfl rfl rfl (RO.loadOwnAgg ag_69 rfl rfl rfl rfl) ?_ | refine oR rfl rfl rfl (RO.loadPelAgg ag_69 rfl rfl rfl) ?_
    refine XL.op rfl (XO.alloc z_69 rfl (lb rfl)) <| XL.op rfl (XO.store ag_69 rfl rfl rfl rfl (lb rfl) rfl) <| XL.nil <| XQ.seq <| XC.seq <| XC.region ?_
    first | refine oR rfl rfl rfl (RO.fieldOwn fo_69_1 rfl) ?_ | refine oR rfl rfl rfl (RO.fieldPel fo_69_1 rfl) ?_
    first | refine oR rfl rfl rfl (RO.loadOwn ag_3 rfl rfl rfl) ?_ | refine oR rfl rfl rfl (RO.loadPel ag_3 rfl rfl) ?_
    refine oR rfl rfl rfl (RO.cmp rfl rfl rfl) <| XL.nil <| XQ.seq ?_
    refine XC.cond rfl (fun c2 => ?_) (fun c2 => ?_)
    ·
      replace c2 := prs c2
      refine XC.seq <| XC.region <| XL.op rfl (XO.of_ro rfl (lb rfl) (RO.build0 bd_24 rfl )) <| XL.op rfl (XO.store ag_24 rfl rfl rfl rfl (lb rfl) rfl) <| oA rfl rfl <| XL.nil <| XQ.seq <| XC.ret ?_
      have hb : bigB L = true := big_at hx (by omega)
      refine XQ.ret2 (fun _ _ h => h) rfl (RA.cellAgg ag_24 rfl rfl rfl rfl) ?s0 (RA.tmp rfl) ?s1 rfl
      case s0 => (rw [limL_big hb]); exact (by repeat' constructor)
      case s1 => (rw [limL_big hb]); exact (by repeat' constructor)
    ·
      replace c2 := prs c2
      refine XC.skip <| XQ.inBlock <| XQ.seq <| XC.region ?_
      refine XL.op rfl (XO.of_ro rfl (lb rfl) (RO.arith rfl rfl rfl (by omega) (by omega))) ?_
      refine oM rfl rfl <| XL.nil ?_
      refine XQ.next (k + 1) ⟨(by repeat' constructor), (by repeat' constructor), (by repeat (first | exact trivial | refine ⟨(by intro T h; first | (cases h; rfl) | cases h), ?_⟩)), (lb rfl), Nat.zero_le _, rfl, rfl, (by simp [tmBelow, TV.below, AV.below, CA.below]), (by simp [hpBelow, HB.below, CA.below]), (by simp [tkBelow]), (by simp)⟩ ⟨by omega, ?_⟩ (by omega)
      intro j x hj h
      rcases Nat.lt_or_ge j k with h2 | h2
      · exact hn j x h2 h
      · obtain rfl : j = k := by omega
        rw [hx] at h; cases h; dsimp only; omega
  ·
    replace c1 := prs c1
    refine XC.exit <| XQ.thenE <| XQ.thenE <| XQ.blockX <| XQ.seq <| XC.seq <| XC.seq <| XC.region ?_
    first | refine oR rfl rfl rfl (RO.fieldOwn fo_24_0 rfl) ?_ | refine oR rfl rfl rfl (RO.fieldPel fo_24_0 rfl) ?_
    first | refine oR rfl rfl rfl (RO.loadOwn ag_3 rfl rfl rfl) ?_ | refine oR rfl rfl rfl (RO.loadPel ag_3 rfl rfl) ?_
    refine oR rfl rfl rfl (RO.cmp rfl rfl rfl) <| XL.nil <| XQ.seq ?_
    refine XC.cond rfl (fun c3 => ?_) (fun c3 => ?_)
    ·
      replace c3 := prs c3
      refine XC.seq <| XC.region <| XL.op rfl (XO.of_ro rfl (lb rfl) (RO.build0 bd_24 rfl )) <| XL.op rfl (XO.store ag_24 rfl rfl rfl rfl (lb rfl) rfl) <| oA rfl rfl <| XL.nil <| XQ.seq <| XC.ret ?_
      have hb : bigB L = true := big_c (by omega)
      refine XQ.ret2 (fun _ _ h => h) rfl (RA.cellAgg ag_24 rfl rfl rfl rfl) ?s0 (RA.tmp rfl) ?s1 rfl
      case s0 => (rw [limL_big hb]); exact (by repeat' constructor)
      case s1 => (rw [limL_big hb]); exact (by repeat' constructor)
    ·
      replace c3 := prs c3
      refine XC.skip <| XQ.seq <| XC.seq <| XC.seq ?_
      have hbig : bigB L = false := big_no (fun j x hj hx => hn j x (by simp only [List.length_map] at *; omega) hx) (by omega)
      refine XC.region ?_
      first | refine oR rfl rfl rfl (RO.loadOwnAgg ag_24 rfl rfl rfl rfl) ?_ | refine oR rfl rfl rfl (RO.loadPelAgg ag_24 rfl rfl rfl) ?_
      refine XL.op rfl (XO.call1 (covered_fun L hlen) rfl (by repeat' constructor) (lb rfl)) ?_
      refine XL.nil <| XQ.seq ?_
      refine XC.cond rfl (fun c4 => ?_) (fun c4 => ?_)
      ·
        replace c4 := prs c4
        refine XC.region ?_
        first | refine oR rfl rfl rfl (RO.fieldOwn fo_24_0 rfl) ?_ | refine oR rfl rfl rfl (RO.fieldPel fo_24_0 rfl) ?_
        refine XL.op rfl (XO.store ag_3 rfl rfl rfl rfl (lb rfl) rfl) <| XL.nil <| XQ.seq <| XC.seq <| XC.region ?_
        first | refine oR rfl rfl rfl (RO.loadOwnAgg ag_24 rfl rfl rfl rfl) ?_ | refine oR rfl rfl rfl (RO.loadPelAgg ag_24 rfl rfl rfl) ?_
        refine XL.op rfl (XO.store ag_24 rfl rfl rfl rfl (lb rfl) rfl) <| oA rfl rfl <| XL.nil <| XQ.seq <| XC.ret ?_
        refine XQ.ret2 (fun _ _ h => h) rfl (RA.cellAgg ag_24 rfl rfl rfl rfl) ?s0 (RA.tmp rfl) ?s1 rfl
        case s0 => (rw [limL_cov hbig (by assumption)]); exact (by repeat' constructor)
        case s1 => (rw [limL_cov hbig (by assumption)]); exact (by repeat' constructor)
      ·
        replace c4 := prs c4
        refine XC.skip <| XQ.seq <| XC.seq <| XC.region ?_
        first | refine oR rfl rfl rfl (RO.loadOwnAgg ag_24 rfl rfl rfl rfl) ?_ | refine oR rfl rfl rfl (RO.loadPelAgg ag_24 rfl rfl rfl) ?_
        refine XL.op rfl (XO.store ag_24 rfl rfl rfl rfl (lb rfl) rfl) <| oA rfl rfl <| XL.nil <| XQ.seq <| XC.ret ?_
        refine XQ.ret2 (fun _ _ h => h) rfl (RA.cellAgg ag_24 rfl rfl rfl rfl) ?s0 (RA.tmp rfl) ?s1 rfl
        case s0 => (rw [limL_no hbig (by assumption)]); exact (by repeat' constructor)
        case s1 => (rw [limL_no hbig (by assumption)]); exact (by repeat' constructor)

set_option maxRecDepth 100000 in
theorem leq1 (y x : LV) : Fun Tryz.prog 61 [lvA y, .one (.pel (lvC x) 0)] (TB ((y.1 == x.1) && decide (x.2 ≤ y.2))) := by
  refine Fun.of_body 9 16 Tryz.func61 rfl en_61 rfl (lb rfl) (fun S w => ?_)
  simp only [entry]
  refine XC.seq <| XC.region <| XL.op rfl (XO.box rfl (lb rfl)) <| oA rfl rfl <| XL.nil <| XQ.seq <| XC.seq <| XC.region ?_
  first | refine oR rfl rfl rfl (RO.fieldOwn fo_69_0 rfl) ?_ | refine oR rfl rfl rfl (RO.fieldPel fo_69_0 rfl) ?_
  first | refine oR rfl rfl rfl (RO.loadOwn ag_3 rfl rfl rfl) ?_ | refine oR rfl rfl rfl (RO.loadPel ag_3 rfl rfl) ?_
  first | refine oR rfl rfl rfl (RO.fieldOwn fo_69_0 rfl) ?_ | refine oR rfl rfl rfl (RO.fieldPel fo_69_0 rfl) ?_
  first | refine oR rfl rfl rfl (RO.loadOwn ag_3 rfl rfl rfl) ?_ | refine oR rfl rfl rfl (RO.loadPel ag_3 rfl rfl) ?_
  refine oR rfl rfl rfl (RO.cmp rfl rfl rfl) <| oM rfl rfl ?_
  refine XL.case (d := 9) rfl (fun c1 => ?_) (fun c1 => ?_)
  ·
    replace c1 := prs c1
    first | refine nR rfl rfl rfl rfl rfl (RO.fieldOwn fo_69_1 rfl) ?_ | refine nR rfl rfl rfl rfl rfl (RO.fieldPel fo_69_1 rfl) ?_
    first | refine nR rfl rfl rfl rfl rfl (RO.loadOwn ag_3 rfl rfl rfl) ?_ | refine nR rfl rfl rfl rfl rfl (RO.loadPel ag_3 rfl rfl) ?_
    first | refine nR rfl rfl rfl rfl rfl (RO.fieldOwn fo_69_1 rfl) ?_ | refine nR rfl rfl rfl rfl rfl (RO.fieldPel fo_69_1 rfl) ?_
    first | refine nR rfl rfl rfl rfl rfl (RO.loadOwn ag_3 rfl rfl rfl) ?_ | refine nR rfl rfl rfl rfl rfl (RO.loadPel ag_3 rfl rfl) ?_
    refine nR rfl rfl rfl rfl rfl (RO.cmp rfl rfl rfl) <| oR rfl rfl rfl (RO.pickT rfl rfl) <| oA rfl rfl <| XL.nil <| XQ.seq <| XC.ret ?_
    refine XQ.ret1 (fun _ _ h => h) rfl (RA.tmp rfl) ?s0 rfl
    case s0 => (rw [show (y.1 == x.1) = true by simpa using c1, Bool.true_and]); exact (by repeat' constructor)
  ·
    replace c1 := prs c1
    refine XL.offB rfl rfl rfl rfl <| XL.offB rfl rfl rfl rfl <| XL.offB rfl rfl rfl rfl <| XL.offB rfl rfl rfl rfl <| XL.offB rfl rfl rfl rfl <| oR rfl rfl rfl (RO.pickF rfl rfl) <| oA rfl rfl <| XL.nil <| XQ.seq <| XC.ret ?_
    refine XQ.ret1 (fun _ _ h => h) rfl (RA.tmp rfl) ?s0 rfl
    case s0 => (rw [show (y.1 == x.1) = false by simpa using c1, Bool.false_and]); exact (by repeat' constructor)

set_option maxRecDepth 100000 in
set_option maxHeartbeats 1000000 in
theorem leq_fun (A B : Lvl) (ha : A.vs.length ≤ 100000) (hb : B.vs.length ≤ 100000) : Fun Tryz.prog 29 [lvlA A, lvlA B] (TB (leqB A B)) := by
  refine Fun.of_body 9 49 Tryz.func29 rfl en_29 rfl (lb rfl) (fun S w => ?_)
  simp only [entry]
  refine XC.seq <| XC.region <| XL.op rfl (XO.box rfl (lb rfl)) <| XL.op rfl (XO.box rfl (lb rfl)) <| oA rfl rfl <| XL.nil <| XQ.seq <| XC.seq <| XC.seq <| XC.region ?_
  first | refine oR rfl rfl rfl (RO.loadOwnAgg ag_24 rfl rfl rfl rfl) ?_ | refine oR rfl rfl rfl (RO.loadPelAgg ag_24 rfl rfl rfl) ?_
  refine XL.op rfl (XO.call1 (valid_fun A ha) rfl (by repeat' constructor) (lb rfl)) ?_
  refine oR rfl rfl rfl (RO.not rfl) <| oM rfl rfl ?_
  refine XL.case (d := 13) rfl (fun c1 => ?_) (fun c1 => ?_)
  ·
    replace c1 := prs c1
    refine XL.offB rfl rfl rfl rfl <| XL.offB rfl rfl rfl rfl <| XL.offB rfl rfl rfl rfl <| oR rfl rfl rfl (RO.pickT rfl rfl) <| XL.nil <| XQ.seq ?_
    refine XC.cond rfl (fun _ => ?_) (fun h => nomatch h)
    refine XC.seq <| XC.region <| oA rfl rfl <| XL.nil <| XQ.seq <| XC.ret ?_
    refine XQ.ret1 (fun _ _ h => h) rfl (RA.tmp rfl) ?s0 rfl
    case s0 => (rw [leq_inv (by rw [c1]; rfl)]); exact (by repeat' constructor)
  ·
    replace c1 := prs c1
    first | refine nR rfl rfl rfl rfl rfl (RO.loadOwnAgg ag_24 rfl rfl rfl rfl) ?_ | refine nR rfl rfl rfl rfl rfl (RO.loadPelAgg ag_24 rfl rfl rfl) ?_
    refine XL.on rfl rfl rfl (XO.call1 (valid_fun B hb) rfl (by repeat' constructor) (lb rfl)) ?_
    refine nR rfl rfl rfl rfl rfl (RO.not rfl) <| oR rfl rfl rfl (RO.pickF rfl rfl) <| XL.nil <| XQ.seq ?_
    refine XC.cond rfl (fun c2 => ?_) (fun c2 => ?_)
    ·
      replace c2 := prs c2
      refine XC.seq <| XC.region <| oA rfl rfl <| XL.nil <| XQ.seq <| XC.ret ?_
      refine XQ.ret1 (fun _ _ h => h) rfl (RA.tmp rfl) ?s0 rfl
      case s0 => (rw [leq_inv (by rw [c1, c2]; rfl)]); exact (by repeat' constructor)
    ·
      replace c2 := prs c2
      refine XC.skip <| XQ.seq <| XC.seq <| XC.region ?_
      first | refine oR rfl rfl rfl (RO.fieldOwn fo_24_0 rfl) ?_ | refine oR rfl rfl rfl (RO.fieldPel fo_24_0 rfl) ?_
      first | refine oR rfl rfl rfl (RO.loadOwn ag_3 rfl rfl rfl) ?_ | refine oR rfl rfl rfl (RO.loadPel ag_3 rfl rfl) ?_
      refine oA rfl rfl <| XL.nil <| XQ.seq <| XC.seq <| XC.seq <| XC.region ?_
      first | refine oR rfl rfl rfl (RO.fieldOwn fo_24_1 rfl) ?_ | refine oR rfl rfl rfl (RO.fieldPel fo_24_1 rfl) ?_
      first | refine oR rfl rfl rfl (RO.loadOwn ag_22 rfl rfl rfl) ?_ | refine oR rfl rfl rfl (RO.loadPel ag_22 rfl rfl) ?_
      refine XL.op rfl (XO.of_ro rfl (lb rfl) (RO.len sl_22 rfl (by repeat' constructor))) ?_
      refine oM rfl rfl <| XL.nil <| XQ.seq <| XC.block ?_
      refine XC.loop (X := Nat) (fun k => ⟨[(2, .v (.one (.ptr 0 0))), (3, .v (.one (.ptr 1 0))), (5, TI (topOf B.c (B.vs.take k))), (21, .v (.one (.d (vsC B.vs)))), (22, TI (B.vs.map lvC).length), (23, TI k)], [(0, .cells 24 [.d (.v (.int .i64 A.c)), .d (vsC A.vs)]), (1, .cells 24 [.d (.v (.int .i64 B.c)), .d (vsC B.vs)])], [], 2, 49, []⟩) (fun k => k ≤ B.vs.length) (fun k => B.vs.length - k) 0 ⟨(by repeat' constructor), (by repeat' constructor), (by repeat (first | exact trivial | refine ⟨(by intro T h; first | (cases h; rfl) | cases h), ?_⟩)), (lb rfl), Nat.zero_le _, rfl, rfl, (by simp [tmBelow, TV.below, AV.below, CA.below]), (by simp [hpBelow, HB.below, CA.below]), (by simp [tkBelow]), (by simp)⟩ (Nat.zero_le _) ?_
      rintro k hk
      try dsimp only
      refine XC.seq <| XC.region <| oR rfl rfl rfl (RO.cmp rfl rfl rfl) <| XL.nil <| XQ.seq <| XC.seq ?_
      refine XC.cond rfl (fun c3 => ?_) (fun c3 => ?_)
      ·
        replace c3 := prs c3
        simp only [List.length_map] at c3
        have hlx : k < B.vs.length := by omega
        obtain ⟨⟨x1, x2⟩, hx⟩ : ∃ x, B.vs[k]? = some x := ⟨_, List.getElem?_eq_getElem hlx⟩
        refine XC.skip <| XQ.seq <| XC.seq <| XC.block <| XC.seq <| XC.region ?_
        refine XL.op rfl (XO.of_ro rfl (lb rfl) (RO.index sl_22 rfl (by repeat' constructor) rfl rfl (map_get hx))) ?_
        first | refine oR rfl rfl rfl (RO.loadOwnAgg ag_69 rfl rfl rfl rfl) ?_ | refine oR rfl rfl rfl (RO.loadPelAgg ag_69 rfl rfl rfl) ?_
        refine XL.op rfl (XO.alloc z_69 rfl (lb rfl)) <| XL.op rfl (XO.store ag_69 rfl rfl rfl rfl (lb rfl) rfl) <| XL.nil <| XQ.seq <| XC.region <| oM rfl rfl ?_
        first | refine oR rfl rfl rfl (RO.fieldOwn fo_69_1 rfl) ?_ | refine oR rfl rfl rfl (RO.fieldPel fo_69_1 rfl) ?_
        first | refine oR rfl rfl rfl (RO.loadOwn ag_3 rfl rfl rfl) ?_ | refine oR rfl rfl rfl (RO.loadPel ag_3 rfl rfl) ?_
        refine oR rfl rfl rfl (RO.max2 rfl rfl) <| oA rfl rfl <| XL.nil <| XQ.inBlock <| XQ.seq <| XC.region ?_
        refine XL.op rfl (XO.of_ro rfl (lb rfl) (RO.arith rfl rfl rfl (by omega) (by omega))) ?_
        refine oM rfl rfl <| XL.nil ?_
        refine XQ.next (k + 1) ?le (by omega) (by omega)
        case le =>
          try dsimp only
          rw [take_snoc' hx, topOf_snoc]
          exact ⟨(by repeat' constructor), (by repeat' constructor), (by repeat (first | exact trivial | refine ⟨(by intro T h; first | (cases h; rfl) | cases h), ?_⟩)), (lb rfl), Nat.zero_le _, rfl, rfl, (by simp [tmBelow, TV.below, AV.below, CA.below]), (by simp [hpBelow, HB.below, CA.below]), (by simp [tkBelow]), (by simp)⟩
      ·
        replace c3 := prs c3
        have hkB : k = B.vs.length := by simp only [List.length_map] at c3; omega
        subst hkB
        rw [List.take_length]
        refine XC.exit <| XQ.thenE <| XQ.thenE <| XQ.blockX <| XQ.seq <| XC.seq <| XC.seq <| XC.region ?_
        first | refine oR rfl rfl rfl (RO.fieldOwn fo_24_0 rfl) ?_ | refine oR rfl rfl rfl (RO.fieldPel fo_24_0 rfl) ?_
        first | refine oR rfl rfl rfl (RO.loadOwn ag_3 rfl rfl rfl) ?_ | refine oR rfl rfl rfl (RO.loadPel ag_3 rfl rfl) ?_
        refine oM rfl rfl <| oR rfl rfl rfl (RO.cmp rfl rfl rfl) <| XL.nil <| XQ.seq ?_
        refine XC.cond rfl (fun c4 => ?_) (fun c4 => ?_)
        ·
          replace c4 := prs c4
          refine XC.seq <| XC.region <| oA rfl rfl <| XL.nil <| XQ.seq <| XC.ret ?_
          refine XQ.ret1 (fun _ _ h => h) rfl (RA.tmp rfl) ?s0 rfl
          case s0 => (rw [leq_c (by omega)]); exact (by repeat' constructor)
        ·
          replace c4 := prs c4
          refine XC.skip <| XQ.seq <| XC.seq <| XC.seq <| XC.region ?_
          first | refine oR rfl rfl rfl (RO.fieldOwn fo_24_1 rfl) ?_ | refine oR rfl rfl rfl (RO.fieldPel fo_24_1 rfl) ?_
          first | refine oR rfl rfl rfl (RO.loadOwn ag_22 rfl rfl rfl) ?_ | refine oR rfl rfl rfl (RO.loadPel ag_22 rfl rfl) ?_
          refine XL.op rfl (XO.of_ro rfl (lb rfl) (RO.len sl_22 rfl (by repeat' constructor))) ?_
          refine oM rfl rfl <| XL.nil <| XQ.seq <| XC.block ?_
          refine XC.loop (X := Nat) (fun k => ⟨[(3, .v (.one (.ptr 1 0))), (37, .v (.one (.d (vsC A.vs)))), (38, TI (A.vs.map lvC).length), (39, TI k)], [(1, .cells 24 [.d (.v (.int .i64 B.c)), .d (vsC B.vs)])], [], 2, 49, []⟩) (fun k => k ≤ A.vs.length ∧ ∀ (j : Nat) (x : LV), j < k → A.vs[j]? = some x → (B.vs.any fun y => (y.1 == x.1) && decide (x.2 ≤ y.2)) = true) (fun k => A.vs.length - k) 0 ⟨(by repeat' constructor), (by repeat' constructor), (by repeat (first | exact trivial | refine ⟨(by intro T h; first | (cases h; rfl) | cases h), ?_⟩)), (lb rfl), Nat.zero_le _, rfl, rfl, (by simp [tmBelow, TV.below, AV.below, CA.below]), (by simp [hpBelow, HB.below, CA.below]), (by simp [tkBelow]), (by simp)⟩ ⟨Nat.zero_le _, fun j x h => absurd h (Nat.not_lt_zero j)⟩ ?_
          rintro k ⟨hk, hn⟩
          try dsimp only
          refine XC.seq <| XC.region <| oR rfl rfl rfl (RO.cmp rfl rfl rfl) <| XL.nil <| XQ.seq <| XC.seq ?_
          refine XC.cond rfl (fun c5 => ?_) (fun c5 => ?_)
          ·
            replace c5 := prs c5
            simp only [List.length_map] at c5
            have hlx : k < A.vs.length := by omega
            obtain ⟨⟨x1, x2⟩, hx⟩ : ∃ x, A.vs[k]? = some x := ⟨_, List.getElem?_eq_getElem hlx⟩
            refine XC.skip <| XQ.seq <| XC.seq <| XC.block <| XC.seq <| XC.region ?_
            refine XL.op rfl (XO.of_ro rfl (lb rfl) (RO.index sl_22 rfl (by repeat' constructor) rfl rfl (map_get hx))) ?_
            first | refine oR rfl rfl rfl (RO.loadOwnAgg ag_69 rfl rfl rfl rfl) ?_ | refine oR rfl rfl rfl (RO.loadPelAgg ag_69 rfl rfl rfl) ?_
            refine XL.op rfl (XO.alloc z_69 rfl (lb rfl)) <| XL.op rfl (XO.store ag_69 rfl rfl rfl rfl (lb rfl) rfl) <| XL.nil <| XQ.seq <| XC.seq <| XC.region ?_
            first | refine oR rfl rfl rfl (RO.fieldOwn fo_24_1 rfl) ?_ | refine oR rfl rfl rfl (RO.fieldPel fo_24_1 rfl) ?_
            first | refine oR rfl rfl rfl (RO.loadOwn ag_22 rfl rfl rfl) ?_ | refine oR rfl rfl rfl (RO.loadPel ag_22 rfl rfl) ?_
            refine oR rfl rfl rfl (RO.makeFunc1 rfl) ?_
            refine XL.op rfl (XO.callB2 (.inl ⟨rfl, rfl⟩) (containsLV B.vs (fun y => (y.1 == x1) && decide (x2 ≤ y.2)) 61 [(lvC (x1, x2), 0)] hb (fun y _ => leq1 y (x1, x2))) (by first | exact Plain.v _ rfl | exact Plain.tup [_, _] (by simp [Value.oneCell'])) rfl (by repeat' constructor) rfl (by repeat' constructor) (lb rfl)) ?_
            refine oR rfl rfl rfl (RO.not rfl) <| XL.nil <| XQ.seq ?_
            refine XC.cond rfl (fun c6 => ?_) (fun c6 => ?_)
            ·
              replace c6 := prs c6
              refine XC.seq <| XC.region <| oA rfl rfl <| XL.nil <| XQ.seq <| XC.ret ?_
              refine XQ.ret1 (fun _ _ h => h) rfl (RA.tmp rfl) ?s0 rfl
              case s0 => (rw [leq_false_at hx (by assumption)]); exact (by repeat' constructor)
            ·
              replace c6 := prs c6
              refine XC.skip <| XQ.inBlock <| XQ.seq <| XC.region ?_
              refine XL.op rfl (XO.of_ro rfl (lb rfl) (RO.arith rfl rfl rfl (by omega) (by omega))) ?_
              refine oM rfl rfl <| XL.nil ?_
              refine XQ.next (k + 1) ⟨(by repeat' constructor), (by repeat' constructor), (by repeat (first | exact trivial | refine ⟨(by intro T h; first | (cases h; rfl) | cases h), ?_⟩)), (lb rfl), Nat.zero_le _, rfl, rfl, (by simp [tmBelow, TV.below, AV.below, CA.below]), (by simp [hpBelow, HB.below, CA.below]), (by simp [tkBelow]), (by simp)⟩ ⟨by omega, ?_⟩ (by omega)
              intro j x hj h
              rcases Nat.lt_or_ge j k with h2 | h2
              · exact hn j x h2 h
              · obtain rfl : j = k := by omega
                rw [hx] at h; cases h; assumption
          ·
            replace c5 := prs c5
            refine XC.exit <| XQ.thenE <| XQ.thenE <| XQ.blockX <| XQ.seq <| XC.seq <| XC.region <| oA rfl rfl <| XL.nil <| XQ.seq <| XC.ret ?_
            refine XQ.ret1 (fun _ _ h => h) rfl (RA.tmp rfl) ?s0 rfl
            case s0 => (rw [leq_true_of (by assumption) (by assumption) (by omega) (fun j x hj hx => hn j x (by simp only [List.length_map] at *; omega) hx)]); exact (by repeat' constructor)
end Go.Proofs.YtcapifnaceegmaaGreatDoor
