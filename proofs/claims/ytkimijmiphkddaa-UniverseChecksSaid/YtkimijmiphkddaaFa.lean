/- slices.IndexFunc and ContainsFunc; level.covered and Valid; the reference Valid. -/
import Derived.Test.YtkimijmiphkddaaTab
namespace Go.Proofs.Ytkimijmiphkddaa
open Go.RowKit
set_option linter.unusedSimpArgs false
set_option linter.unusedVariables false

set_option maxRecDepth 100000 in
theorem indexLV (l : List LV) (p : LV → Bool) (f : FuncId) (caps : List (List C × Nat)) (hlen : l.length ≤ 100000) (hf : ∀ x ∈ l, Fun Try.prog f ([lvA x] ++ caps.map fun q => .one (.pel q.1 q.2)) (TB (p x))) : Fun Try.prog 84 [.one (.d (.sl 2 (l.map lvC))), .one (.clo f caps)] (TI (idxOf p l)) := by
  refine Fun.of_body 9 19 Try.func84 rfl en_84 rfl (Nat.le_of_ble_eq_true rfl) (fun S w => ?_)
  simp only [entry]
  refine XC.seq ?_
  refine XC.region ?_
  refine XL.op rfl (XO.of_ro rfl (Nat.le_of_ble_eq_true rfl) (RO.assign rfl)) ?_
  refine XL.nil ?_
  refine XQ.seq ?_
  refine XC.seq ?_
  refine XC.seq ?_
  refine XC.region ?_
  refine XL.op rfl (XO.of_ro rfl (Nat.le_of_ble_eq_true rfl) (RO.move rfl)) ?_
  refine XL.op rfl (XO.of_ro rfl (Nat.le_of_ble_eq_true rfl) (RO.len sl_37 rfl (by first | exact SlOf.d _ _ | exact SlOf.app _ _ _ | exact SlOf.nil _))) ?_
  refine XL.op rfl (XO.of_ro rfl (Nat.le_of_ble_eq_true rfl) (RO.move rfl)) ?_
  refine XL.nil ?_
  refine XQ.seq ?_
  refine XC.block ?_
  refine XC.loop (X := Nat) (fun k => ⟨[(0, .v (.one (.d (.sl 2 (l.map lvC))))), (1, .v (.one (.clo f caps))), (7, TI (l.map lvC).length), (8, TI k)], [], [], 0, 19, []⟩) (fun k => k ≤ l.length ∧ ∀ (i : Nat) (x : LV), i < k → l[i]? = some x → p x = false) (fun k => l.length - k) 0 ⟨(by repeat (first | exact trivial | refine ⟨⟨_, rfl, by first | exact TLe.refl _ | exact TLe.unk _ | exact TLe.sub (by first | exact .app _ _ _ | exact .nil _) | exact TLe.agg (by repeat (first | exact CLs.nil | refine CLs.cons (by first | exact .refl _ | exact .sub (.app _ _ _) | exact .sub (.nil _)) ?_))⟩, ?_⟩)), (by repeat (first | exact trivial | refine ⟨⟨_, rfl, by first | exact BLe.refl _ | exact BLe.cells (by repeat (first | exact CLs.nil | refine CLs.cons (by first | exact .refl _ | exact .sub (.app _ _ _) | exact .sub (.nil _)) ?_))⟩, ?_⟩)), (by repeat (first | exact trivial | refine ⟨(by intro T h; first | (cases h; rfl) | cases h), ?_⟩)), (Nat.le_of_ble_eq_true rfl), Nat.zero_le _, rfl, rfl, (by simp [tmBelow, TV.below, AV.below, CA.below]), (by simp [hpBelow, HB.below, CA.below]), (by simp [tkBelow]), (by simp)⟩ ⟨Nat.zero_le _, fun i e h => absurd h (Nat.not_lt_zero i)⟩ ?_
  rintro k ⟨hk, hn⟩
  try dsimp only
  refine XC.seq ?_
  refine XC.region ?_
  refine XL.op rfl (XO.of_ro rfl (Nat.le_of_ble_eq_true rfl) (RO.cmp rfl rfl rfl)) ?_
  refine XL.nil ?_
  refine XQ.seq ?_
  refine XC.seq ?_
  refine XC.cond rfl (fun c1 => ?_) (fun c1 => ?_)
  ·
    try simp only [decide_eq_true_eq, decide_eq_false_iff_not, Bool.not_eq_true', Bool.not_eq_false', Bool.not_eq_true, Bool.not_eq_false, beq_iff_eq, bne_iff_ne, beq_eq_false_iff_ne, bne_eq_false_iff_eq, Int.not_lt, Int.not_le, ne_eq] at c1
    simp only [List.length_map] at c1
    have hlt : k < l.length := by omega
    obtain ⟨x, hx⟩ : ∃ x, l[k]? = some x := ⟨_, List.getElem?_eq_getElem hlt⟩
    refine XC.skip ?_
    refine XQ.seq ?_
    refine XC.seq ?_
    refine XC.block ?_
    refine XC.seq ?_
    refine XC.region ?_
    refine XL.op rfl (XO.of_ro rfl (Nat.le_of_ble_eq_true rfl) (RO.move rfl)) ?_
    refine XL.op rfl (XO.of_ro rfl (Nat.le_of_ble_eq_true rfl) (RO.assign rfl)) ?_
    refine XL.nil ?_
    refine XQ.seq ?_
    refine XC.seq ?_
    refine XC.region ?_
    refine XL.op rfl (XO.of_ro rfl (Nat.le_of_ble_eq_true rfl) (RO.move rfl)) ?_
    refine XL.op rfl (XO.of_ro rfl (Nat.le_of_ble_eq_true rfl) (RO.move rfl)) ?_
    refine XL.op rfl (XO.of_ro rfl (Nat.le_of_ble_eq_true rfl) (RO.move rfl)) ?_
    refine XL.op rfl (XO.of_ro rfl (Nat.le_of_ble_eq_true rfl) (RO.index sl_37 rfl (by first | exact SlOf.d _ _ | exact SlOf.app _ _ _ | exact SlOf.nil _) rfl rfl (map_get hx))) ?_
    first | refine XL.op rfl (XO.of_ro rfl (Nat.le_of_ble_eq_true rfl) (RO.loadOwnAgg ag_59 rfl rfl rfl rfl)) ?_ | refine XL.op rfl (XO.of_ro rfl (Nat.le_of_ble_eq_true rfl) (RO.loadPelAgg ag_59 rfl rfl rfl)) ?_
    refine XL.op rfl (XO.callB1 (.inr ⟨_, _, rfl, rfl, rfl⟩) (hf x (List.mem_of_getElem? hx)) (by first | exact Plain.v _ rfl | exact Plain.tup [_, _] (by simp [Value.oneCell'])) rfl (by first | exact .sub (by first | exact .one (.d _) | exact .one (.app _ _ _) | exact .one (.nil _) | exact .agg (by first | exact .nil | (repeat (first | exact .nil | refine .cons (by first | exact .d _ | exact .app _ _ _ | exact .nil _) ?_)))) | exact .ptr rfl (by first | exact .nil | (repeat (first | exact .nil | refine .cons (by first | exact .d _ | exact .app _ _ _ | exact .nil _) ?_))) | exact .fn (by repeat (first | exact .nil | refine .cons rfl (by first | exact .nil | (repeat (first | exact .nil | refine .cons (by first | exact .d _ | exact .app _ _ _ | exact .nil _) ?_))) ?_)) | exact .pel | exact .clo) (Nat.le_of_ble_eq_true rfl)) ?_
    refine XL.nil ?_
    refine XQ.seq ?_
    refine XC.cond rfl (fun c2 => ?_) (fun c2 => ?_)
    ·
      try simp only [decide_eq_true_eq, decide_eq_false_iff_not, Bool.not_eq_true', Bool.not_eq_false', Bool.not_eq_true, Bool.not_eq_false, beq_iff_eq, bne_iff_ne, beq_eq_false_iff_ne, bne_eq_false_iff_eq, Int.not_lt, Int.not_le, ne_eq] at c2
      refine XC.seq ?_
      refine XC.region ?_
      refine XL.op rfl (XO.of_ro rfl (Nat.le_of_ble_eq_true rfl) (RO.move rfl)) ?_
      refine XL.op rfl (XO.of_ro rfl (Nat.le_of_ble_eq_true rfl) (RO.assign rfl)) ?_
      refine XL.nil ?_
      refine XQ.seq ?_
      refine XC.ret ?_
      refine XQ.ret1 (fun _ _ h => h) rfl (RA.tmp rfl) ?s0 rfl
      case s0 => (rw [idxOf_at p l k x hx c2 hn]); exact (by first | exact .one (.d _) | exact .one (.app _ _ _) | exact .one (.nil _) | exact .agg (by first | exact .nil | (repeat (first | exact .nil | refine .cons (by first | exact .d _ | exact .app _ _ _ | exact .nil _) ?_))))
    ·
      try simp only [decide_eq_true_eq, decide_eq_false_iff_not, Bool.not_eq_true', Bool.not_eq_false', Bool.not_eq_true, Bool.not_eq_false, beq_iff_eq, bne_iff_ne, beq_eq_false_iff_ne, bne_eq_false_iff_eq, Int.not_lt, Int.not_le, ne_eq] at c2
      refine XC.skip ?_
      refine XQ.inBlock ?_
      refine XQ.seq ?_
      refine XC.region ?_
      refine XL.op rfl (XO.of_ro rfl (Nat.le_of_ble_eq_true rfl) (RO.arith rfl rfl rfl (by omega) (by omega))) ?_
      refine XL.op rfl (XO.of_ro rfl (Nat.le_of_ble_eq_true rfl) (RO.move rfl)) ?_
      refine XL.nil ?_
      refine XQ.next (k + 1) ⟨(by repeat (first | exact trivial | refine ⟨⟨_, rfl, by first | exact TLe.refl _ | exact TLe.unk _ | exact TLe.sub (by first | exact .app _ _ _ | exact .nil _) | exact TLe.agg (by repeat (first | exact CLs.nil | refine CLs.cons (by first | exact .refl _ | exact .sub (.app _ _ _) | exact .sub (.nil _)) ?_))⟩, ?_⟩)), (by repeat (first | exact trivial | refine ⟨⟨_, rfl, by first | exact BLe.refl _ | exact BLe.cells (by repeat (first | exact CLs.nil | refine CLs.cons (by first | exact .refl _ | exact .sub (.app _ _ _) | exact .sub (.nil _)) ?_))⟩, ?_⟩)), (by repeat (first | exact trivial | refine ⟨(by intro T h; first | (cases h; rfl) | cases h), ?_⟩)), (Nat.le_of_ble_eq_true rfl), Nat.zero_le _, rfl, rfl, (by simp [tmBelow, TV.below, AV.below, CA.below]), (by simp [hpBelow, HB.below, CA.below]), (by simp [tkBelow]), (by simp)⟩ ⟨by omega, ?_⟩ (by omega)
      intro i y hi hy
      rcases Nat.lt_or_ge i k with h | h
      · exact hn i y h hy
      · obtain rfl : i = k := by omega
        rw [hx] at hy; cases hy; exact c2
  ·
    try simp only [decide_eq_true_eq, decide_eq_false_iff_not, Bool.not_eq_true', Bool.not_eq_false', Bool.not_eq_true, Bool.not_eq_false, beq_iff_eq, bne_iff_ne, beq_eq_false_iff_ne, bne_eq_false_iff_eq, Int.not_lt, Int.not_le, ne_eq] at c1
    refine XC.exit ?_
    refine XQ.thenE ?_
    refine XQ.thenE ?_
    refine XQ.blockX ?_
    refine XQ.seq ?_
    refine XC.seq ?_
    refine XC.region ?_
    refine XL.op rfl (XO.of_ro rfl (Nat.le_of_ble_eq_true rfl) (RO.assign rfl)) ?_
    refine XL.nil ?_
    refine XQ.seq ?_
    refine XC.ret ?_
    refine XQ.ret1 (fun _ _ h => h) rfl (RA.tmp rfl) ?s0 rfl
    case s0 => (rw [idxOf_none p l (fun i y hy => hn i y (by have := (List.getElem?_eq_some_iff.1 hy).1; simp only [List.length_map] at c1; omega) hy)]); exact (by first | exact .one (.d _) | exact .one (.app _ _ _) | exact .one (.nil _) | exact .agg (by first | exact .nil | (repeat (first | exact .nil | refine .cons (by first | exact .d _ | exact .app _ _ _ | exact .nil _) ?_))))

set_option maxRecDepth 100000 in
theorem containsLV (l : List LV) (p : LV → Bool) (f : FuncId) (caps : List (List C × Nat)) (hlen : l.length ≤ 100000) (hf : ∀ x ∈ l, Fun Try.prog f ([lvA x] ++ caps.map fun q => .one (.pel q.1 q.2)) (TB (p x))) : Fun Try.prog 70 [.one (.d (.sl 2 (l.map lvC))), .one (.clo f caps)] (TB (l.any p)) := by
  refine Fun.of_body 9 9 Try.func70 rfl en_70 rfl (Nat.le_of_ble_eq_true rfl) (fun S w => ?_)
  simp only [entry]
  refine XC.seq ?_
  refine XC.region ?_
  refine XL.op rfl (XO.of_ro rfl (Nat.le_of_ble_eq_true rfl) (RO.assign rfl)) ?_
  refine XL.nil ?_
  refine XQ.seq ?_
  refine XC.seq ?_
  refine XC.region ?_
  refine XL.op rfl (XO.of_ro rfl (Nat.le_of_ble_eq_true rfl) (RO.move rfl)) ?_
  refine XL.op rfl (XO.of_ro rfl (Nat.le_of_ble_eq_true rfl) (RO.move rfl)) ?_
  refine XL.op rfl (XO.callB2 (.inl ⟨rfl, rfl⟩) (indexLV l p f caps hlen hf) (by first | exact Plain.v _ rfl | exact Plain.tup [_, _] (by simp [Value.oneCell'])) rfl (by first | exact .sub (by first | exact .one (.d _) | exact .one (.app _ _ _) | exact .one (.nil _) | exact .agg (by first | exact .nil | (repeat (first | exact .nil | refine .cons (by first | exact .d _ | exact .app _ _ _ | exact .nil _) ?_)))) | exact .ptr rfl (by first | exact .nil | (repeat (first | exact .nil | refine .cons (by first | exact .d _ | exact .app _ _ _ | exact .nil _) ?_))) | exact .fn (by repeat (first | exact .nil | refine .cons rfl (by first | exact .nil | (repeat (first | exact .nil | refine .cons (by first | exact .d _ | exact .app _ _ _ | exact .nil _) ?_))) ?_)) | exact .pel | exact .clo) rfl (by first | exact .sub (by first | exact .one (.d _) | exact .one (.app _ _ _) | exact .one (.nil _) | exact .agg (by first | exact .nil | (repeat (first | exact .nil | refine .cons (by first | exact .d _ | exact .app _ _ _ | exact .nil _) ?_)))) | exact .ptr rfl (by first | exact .nil | (repeat (first | exact .nil | refine .cons (by first | exact .d _ | exact .app _ _ _ | exact .nil _) ?_))) | exact .fn (by repeat (first | exact .nil | refine .cons rfl (by first | exact .nil | (repeat (first | exact .nil | refine .cons (by first | exact .d _ | exact .app _ _ _ | exact .nil _) ?_))) ?_)) | exact .pel | exact .clo) (Nat.le_of_ble_eq_true rfl)) ?_
  refine XL.op rfl (XO.of_ro rfl (Nat.le_of_ble_eq_true rfl) (RO.cmp rfl rfl rfl)) ?_
  refine XL.op rfl (XO.of_ro rfl (Nat.le_of_ble_eq_true rfl) (RO.assign rfl)) ?_
  refine XL.nil ?_
  refine XQ.seq ?_
  refine XC.ret ?_
  refine XQ.ret1 (fun _ _ h => h) rfl (RA.tmp rfl) ?s0 rfl
  case s0 => (rw [← idxOf_pos p l]); exact (by first | exact .one (.d _) | exact .one (.app _ _ _) | exact .one (.nil _) | exact .agg (by first | exact .nil | (repeat (first | exact .nil | refine .cons (by first | exact .d _ | exact .app _ _ _ | exact .nil _) ?_))))

set_option maxRecDepth 100000 in
theorem indexLvl (l : List Lvl) (p : Lvl → Bool) (f : FuncId) (caps : List (List C × Nat)) (hlen : l.length ≤ 100000) (hf : ∀ x ∈ l, Fun Try.prog f ([lvlA x] ++ caps.map fun q => .one (.pel q.1 q.2)) (TB (p x))) : Fun Try.prog 88 [.one (.d (.sl 2 (l.map lvlC))), .one (.clo f caps)] (TI (idxOf p l)) := by
  refine Fun.of_body 9 19 Try.func88 rfl en_88 rfl (Nat.le_of_ble_eq_true rfl) (fun S w => ?_)
  simp only [entry]
  refine XC.seq ?_
  refine XC.region ?_
  refine XL.op rfl (XO.of_ro rfl (Nat.le_of_ble_eq_true rfl) (RO.assign rfl)) ?_
  refine XL.nil ?_
  refine XQ.seq ?_
  refine XC.seq ?_
  refine XC.seq ?_
  refine XC.region ?_
  refine XL.op rfl (XO.of_ro rfl (Nat.le_of_ble_eq_true rfl) (RO.move rfl)) ?_
  refine XL.op rfl (XO.of_ro rfl (Nat.le_of_ble_eq_true rfl) (RO.len sl_31 rfl (by first | exact SlOf.d _ _ | exact SlOf.app _ _ _ | exact SlOf.nil _))) ?_
  refine XL.op rfl (XO.of_ro rfl (Nat.le_of_ble_eq_true rfl) (RO.move rfl)) ?_
  refine XL.nil ?_
  refine XQ.seq ?_
  refine XC.block ?_
  refine XC.loop (X := Nat) (fun k => ⟨[(0, .v (.one (.d (.sl 2 (l.map lvlC))))), (1, .v (.one (.clo f caps))), (7, TI (l.map lvlC).length), (8, TI k)], [], [], 0, 19, []⟩) (fun k => k ≤ l.length ∧ ∀ (i : Nat) (x : Lvl), i < k → l[i]? = some x → p x = false) (fun k => l.length - k) 0 ⟨(by repeat (first | exact trivial | refine ⟨⟨_, rfl, by first | exact TLe.refl _ | exact TLe.unk _ | exact TLe.sub (by first | exact .app _ _ _ | exact .nil _) | exact TLe.agg (by repeat (first | exact CLs.nil | refine CLs.cons (by first | exact .refl _ | exact .sub (.app _ _ _) | exact .sub (.nil _)) ?_))⟩, ?_⟩)), (by repeat (first | exact trivial | refine ⟨⟨_, rfl, by first | exact BLe.refl _ | exact BLe.cells (by repeat (first | exact CLs.nil | refine CLs.cons (by first | exact .refl _ | exact .sub (.app _ _ _) | exact .sub (.nil _)) ?_))⟩, ?_⟩)), (by repeat (first | exact trivial | refine ⟨(by intro T h; first | (cases h; rfl) | cases h), ?_⟩)), (Nat.le_of_ble_eq_true rfl), Nat.zero_le _, rfl, rfl, (by simp [tmBelow, TV.below, AV.below, CA.below]), (by simp [hpBelow, HB.below, CA.below]), (by simp [tkBelow]), (by simp)⟩ ⟨Nat.zero_le _, fun i e h => absurd h (Nat.not_lt_zero i)⟩ ?_
  rintro k ⟨hk, hn⟩
  try dsimp only
  refine XC.seq ?_
  refine XC.region ?_
  refine XL.op rfl (XO.of_ro rfl (Nat.le_of_ble_eq_true rfl) (RO.cmp rfl rfl rfl)) ?_
  refine XL.nil ?_
  refine XQ.seq ?_
  refine XC.seq ?_
  refine XC.cond rfl (fun c1 => ?_) (fun c1 => ?_)
  ·
    try simp only [decide_eq_true_eq, decide_eq_false_iff_not, Bool.not_eq_true', Bool.not_eq_false', Bool.not_eq_true, Bool.not_eq_false, beq_iff_eq, bne_iff_ne, beq_eq_false_iff_ne, bne_eq_false_iff_eq, Int.not_lt, Int.not_le, ne_eq] at c1
    simp only [List.length_map] at c1
    have hlt : k < l.length := by omega
    obtain ⟨x, hx⟩ : ∃ x, l[k]? = some x := ⟨_, List.getElem?_eq_getElem hlt⟩
    refine XC.skip ?_
    refine XQ.seq ?_
    refine XC.seq ?_
    refine XC.block ?_
    refine XC.seq ?_
    refine XC.region ?_
    refine XL.op rfl (XO.of_ro rfl (Nat.le_of_ble_eq_true rfl) (RO.move rfl)) ?_
    refine XL.op rfl (XO.of_ro rfl (Nat.le_of_ble_eq_true rfl) (RO.assign rfl)) ?_
    refine XL.nil ?_
    refine XQ.seq ?_
    refine XC.seq ?_
    refine XC.region ?_
    refine XL.op rfl (XO.of_ro rfl (Nat.le_of_ble_eq_true rfl) (RO.move rfl)) ?_
    refine XL.op rfl (XO.of_ro rfl (Nat.le_of_ble_eq_true rfl) (RO.move rfl)) ?_
    refine XL.op rfl (XO.of_ro rfl (Nat.le_of_ble_eq_true rfl) (RO.move rfl)) ?_
    refine XL.op rfl (XO.of_ro rfl (Nat.le_of_ble_eq_true rfl) (RO.index sl_31 rfl (by first | exact SlOf.d _ _ | exact SlOf.app _ _ _ | exact SlOf.nil _) rfl rfl (map_get hx))) ?_
    first | refine XL.op rfl (XO.of_ro rfl (Nat.le_of_ble_eq_true rfl) (RO.loadOwnAgg ag_39 rfl rfl rfl rfl)) ?_ | refine XL.op rfl (XO.of_ro rfl (Nat.le_of_ble_eq_true rfl) (RO.loadPelAgg ag_39 rfl rfl rfl)) ?_
    refine XL.op rfl (XO.callB1 (.inr ⟨_, _, rfl, rfl, rfl⟩) (hf x (List.mem_of_getElem? hx)) (by first | exact Plain.v _ rfl | exact Plain.tup [_, _] (by simp [Value.oneCell'])) rfl (by first | exact .sub (by first | exact .one (.d _) | exact .one (.app _ _ _) | exact .one (.nil _) | exact .agg (by first | exact .nil | (repeat (first | exact .nil | refine .cons (by first | exact .d _ | exact .app _ _ _ | exact .nil _) ?_)))) | exact .ptr rfl (by first | exact .nil | (repeat (first | exact .nil | refine .cons (by first | exact .d _ | exact .app _ _ _ | exact .nil _) ?_))) | exact .fn (by repeat (first | exact .nil | refine .cons rfl (by first | exact .nil | (repeat (first | exact .nil | refine .cons (by first | exact .d _ | exact .app _ _ _ | exact .nil _) ?_))) ?_)) | exact .pel | exact .clo) (Nat.le_of_ble_eq_true rfl)) ?_
    refine XL.nil ?_
    refine XQ.seq ?_
    refine XC.cond rfl (fun c2 => ?_) (fun c2 => ?_)
    ·
      try simp only [decide_eq_true_eq, decide_eq_false_iff_not, Bool.not_eq_true', Bool.not_eq_false', Bool.not_eq_true, Bool.not_eq_false, beq_iff_eq, bne_iff_ne, beq_eq_false_iff_ne, bne_eq_false_iff_eq, Int.not_lt, Int.not_le, ne_eq] at c2
      refine XC.seq ?_
      refine XC.region ?_
      refine XL.op rfl (XO.of_ro rfl (Nat.le_of_ble_eq_true rfl) (RO.move rfl)) ?_
      refine XL.op rfl (XO.of_ro rfl (Nat.le_of_ble_eq_true rfl) (RO.assign rfl)) ?_
      refine XL.nil ?_
      refine XQ.seq ?_
      refine XC.ret ?_
      refine XQ.ret1 (fun _ _ h => h) rfl (RA.tmp rfl) ?s0 rfl
      case s0 => (rw [idxOf_at p l k x hx c2 hn]); exact (by first | exact .one (.d _) | exact .one (.app _ _ _) | exact .one (.nil _) | exact .agg (by first | exact .nil | (repeat (first | exact .nil | refine .cons (by first | exact .d _ | exact .app _ _ _ | exact .nil _) ?_))))
    ·
      try simp only [decide_eq_true_eq, decide_eq_false_iff_not, Bool.not_eq_true', Bool.not_eq_false', Bool.not_eq_true, Bool.not_eq_false, beq_iff_eq, bne_iff_ne, beq_eq_false_iff_ne, bne_eq_false_iff_eq, Int.not_lt, Int.not_le, ne_eq] at c2
      refine XC.skip ?_
      refine XQ.inBlock ?_
      refine XQ.seq ?_
      refine XC.region ?_
      refine XL.op rfl (XO.of_ro rfl (Nat.le_of_ble_eq_true rfl) (RO.arith rfl rfl rfl (by omega) (by omega))) ?_
      refine XL.op rfl (XO.of_ro rfl (Nat.le_of_ble_eq_true rfl) (RO.move rfl)) ?_
      refine XL.nil ?_
      refine XQ.next (k + 1) ⟨(by repeat (first | exact trivial | refine ⟨⟨_, rfl, by first | exact TLe.refl _ | exact TLe.unk _ | exact TLe.sub (by first | exact .app _ _ _ | exact .nil _) | exact TLe.agg (by repeat (first | exact CLs.nil | refine CLs.cons (by first | exact .refl _ | exact .sub (.app _ _ _) | exact .sub (.nil _)) ?_))⟩, ?_⟩)), (by repeat (first | exact trivial | refine ⟨⟨_, rfl, by first | exact BLe.refl _ | exact BLe.cells (by repeat (first | exact CLs.nil | refine CLs.cons (by first | exact .refl _ | exact .sub (.app _ _ _) | exact .sub (.nil _)) ?_))⟩, ?_⟩)), (by repeat (first | exact trivial | refine ⟨(by intro T h; first | (cases h; rfl) | cases h), ?_⟩)), (Nat.le_of_ble_eq_true rfl), Nat.zero_le _, rfl, rfl, (by simp [tmBelow, TV.below, AV.below, CA.below]), (by simp [hpBelow, HB.below, CA.below]), (by simp [tkBelow]), (by simp)⟩ ⟨by omega, ?_⟩ (by omega)
      intro i y hi hy
      rcases Nat.lt_or_ge i k with h | h
      · exact hn i y h hy
      · obtain rfl : i = k := by omega
        rw [hx] at hy; cases hy; exact c2
  ·
    try simp only [decide_eq_true_eq, decide_eq_false_iff_not, Bool.not_eq_true', Bool.not_eq_false', Bool.not_eq_true, Bool.not_eq_false, beq_iff_eq, bne_iff_ne, beq_eq_false_iff_ne, bne_eq_false_iff_eq, Int.not_lt, Int.not_le, ne_eq] at c1
    refine XC.exit ?_
    refine XQ.thenE ?_
    refine XQ.thenE ?_
    refine XQ.blockX ?_
    refine XQ.seq ?_
    refine XC.seq ?_
    refine XC.region ?_
    refine XL.op rfl (XO.of_ro rfl (Nat.le_of_ble_eq_true rfl) (RO.assign rfl)) ?_
    refine XL.nil ?_
    refine XQ.seq ?_
    refine XC.ret ?_
    refine XQ.ret1 (fun _ _ h => h) rfl (RA.tmp rfl) ?s0 rfl
    case s0 => (rw [idxOf_none p l (fun i y hy => hn i y (by have := (List.getElem?_eq_some_iff.1 hy).1; simp only [List.length_map] at c1; omega) hy)]); exact (by first | exact .one (.d _) | exact .one (.app _ _ _) | exact .one (.nil _) | exact .agg (by first | exact .nil | (repeat (first | exact .nil | refine .cons (by first | exact .d _ | exact .app _ _ _ | exact .nil _) ?_))))

set_option maxRecDepth 100000 in
theorem containsLvl (l : List Lvl) (p : Lvl → Bool) (f : FuncId) (caps : List (List C × Nat)) (hlen : l.length ≤ 100000) (hf : ∀ x ∈ l, Fun Try.prog f ([lvlA x] ++ caps.map fun q => .one (.pel q.1 q.2)) (TB (p x))) : Fun Try.prog 80 [.one (.d (.sl 2 (l.map lvlC))), .one (.clo f caps)] (TB (l.any p)) := by
  refine Fun.of_body 9 9 Try.func80 rfl en_80 rfl (Nat.le_of_ble_eq_true rfl) (fun S w => ?_)
  simp only [entry]
  refine XC.seq ?_
  refine XC.region ?_
  refine XL.op rfl (XO.of_ro rfl (Nat.le_of_ble_eq_true rfl) (RO.assign rfl)) ?_
  refine XL.nil ?_
  refine XQ.seq ?_
  refine XC.seq ?_
  refine XC.region ?_
  refine XL.op rfl (XO.of_ro rfl (Nat.le_of_ble_eq_true rfl) (RO.move rfl)) ?_
  refine XL.op rfl (XO.of_ro rfl (Nat.le_of_ble_eq_true rfl) (RO.move rfl)) ?_
  refine XL.op rfl (XO.callB2 (.inl ⟨rfl, rfl⟩) (indexLvl l p f caps hlen hf) (by first | exact Plain.v _ rfl | exact Plain.tup [_, _] (by simp [Value.oneCell'])) rfl (by first | exact .sub (by first | exact .one (.d _) | exact .one (.app _ _ _) | exact .one (.nil _) | exact .agg (by first | exact .nil | (repeat (first | exact .nil | refine .cons (by first | exact .d _ | exact .app _ _ _ | exact .nil _) ?_)))) | exact .ptr rfl (by first | exact .nil | (repeat (first | exact .nil | refine .cons (by first | exact .d _ | exact .app _ _ _ | exact .nil _) ?_))) | exact .fn (by repeat (first | exact .nil | refine .cons rfl (by first | exact .nil | (repeat (first | exact .nil | refine .cons (by first | exact .d _ | exact .app _ _ _ | exact .nil _) ?_))) ?_)) | exact .pel | exact .clo) rfl (by first | exact .sub (by first | exact .one (.d _) | exact .one (.app _ _ _) | exact .one (.nil _) | exact .agg (by first | exact .nil | (repeat (first | exact .nil | refine .cons (by first | exact .d _ | exact .app _ _ _ | exact .nil _) ?_)))) | exact .ptr rfl (by first | exact .nil | (repeat (first | exact .nil | refine .cons (by first | exact .d _ | exact .app _ _ _ | exact .nil _) ?_))) | exact .fn (by repeat (first | exact .nil | refine .cons rfl (by first | exact .nil | (repeat (first | exact .nil | refine .cons (by first | exact .d _ | exact .app _ _ _ | exact .nil _) ?_))) ?_)) | exact .pel | exact .clo) (Nat.le_of_ble_eq_true rfl)) ?_
  refine XL.op rfl (XO.of_ro rfl (Nat.le_of_ble_eq_true rfl) (RO.cmp rfl rfl rfl)) ?_
  refine XL.op rfl (XO.of_ro rfl (Nat.le_of_ble_eq_true rfl) (RO.assign rfl)) ?_
  refine XL.nil ?_
  refine XQ.seq ?_
  refine XC.ret ?_
  refine XQ.ret1 (fun _ _ h => h) rfl (RA.tmp rfl) ?s0 rfl
  case s0 => (rw [← idxOf_pos p l]); exact (by first | exact .one (.d _) | exact .one (.app _ _ _) | exact .one (.nil _) | exact .agg (by first | exact .nil | (repeat (first | exact .nil | refine .cons (by first | exact .d _ | exact .app _ _ _ | exact .nil _) ?_))))

set_option maxRecDepth 100000 in
theorem indexBnd (l : List Bnd) (p : Bnd → Bool) (f : FuncId) (caps : List (List C × Nat)) (hlen : l.length ≤ 100000) (hf : ∀ x ∈ l, Fun Try.prog f ([bndA x] ++ caps.map fun q => .one (.pel q.1 q.2)) (TB (p x))) : Fun Try.prog 59 [.one (.d (.sl 4 (l.map bndC))), .one (.clo f caps)] (TI (idxOf p l)) := by
  refine Fun.of_body 9 19 Try.func59 rfl en_59 rfl (Nat.le_of_ble_eq_true rfl) (fun S w => ?_)
  simp only [entry]
  refine XC.seq ?_
  refine XC.region ?_
  refine XL.op rfl (XO.of_ro rfl (Nat.le_of_ble_eq_true rfl) (RO.assign rfl)) ?_
  refine XL.nil ?_
  refine XQ.seq ?_
  refine XC.seq ?_
  refine XC.seq ?_
  refine XC.region ?_
  refine XL.op rfl (XO.of_ro rfl (Nat.le_of_ble_eq_true rfl) (RO.move rfl)) ?_
  refine XL.op rfl (XO.of_ro rfl (Nat.le_of_ble_eq_true rfl) (RO.len sl_22 rfl (by first | exact SlOf.d _ _ | exact SlOf.app _ _ _ | exact SlOf.nil _))) ?_
  refine XL.op rfl (XO.of_ro rfl (Nat.le_of_ble_eq_true rfl) (RO.move rfl)) ?_
  refine XL.nil ?_
  refine XQ.seq ?_
  refine XC.block ?_
  refine XC.loop (X := Nat) (fun k => ⟨[(0, .v (.one (.d (.sl 4 (l.map bndC))))), (1, .v (.one (.clo f caps))), (7, TI (l.map bndC).length), (8, TI k)], [], [], 0, 19, []⟩) (fun k => k ≤ l.length ∧ ∀ (i : Nat) (x : Bnd), i < k → l[i]? = some x → p x = false) (fun k => l.length - k) 0 ⟨(by repeat (first | exact trivial | refine ⟨⟨_, rfl, by first | exact TLe.refl _ | exact TLe.unk _ | exact TLe.sub (by first | exact .app _ _ _ | exact .nil _) | exact TLe.agg (by repeat (first | exact CLs.nil | refine CLs.cons (by first | exact .refl _ | exact .sub (.app _ _ _) | exact .sub (.nil _)) ?_))⟩, ?_⟩)), (by repeat (first | exact trivial | refine ⟨⟨_, rfl, by first | exact BLe.refl _ | exact BLe.cells (by repeat (first | exact CLs.nil | refine CLs.cons (by first | exact .refl _ | exact .sub (.app _ _ _) | exact .sub (.nil _)) ?_))⟩, ?_⟩)), (by repeat (first | exact trivial | refine ⟨(by intro T h; first | (cases h; rfl) | cases h), ?_⟩)), (Nat.le_of_ble_eq_true rfl), Nat.zero_le _, rfl, rfl, (by simp [tmBelow, TV.below, AV.below, CA.below]), (by simp [hpBelow, HB.below, CA.below]), (by simp [tkBelow]), (by simp)⟩ ⟨Nat.zero_le _, fun i e h => absurd h (Nat.not_lt_zero i)⟩ ?_
  rintro k ⟨hk, hn⟩
  try dsimp only
  refine XC.seq ?_
  refine XC.region ?_
  refine XL.op rfl (XO.of_ro rfl (Nat.le_of_ble_eq_true rfl) (RO.cmp rfl rfl rfl)) ?_
  refine XL.nil ?_
  refine XQ.seq ?_
  refine XC.seq ?_
  refine XC.cond rfl (fun c1 => ?_) (fun c1 => ?_)
  ·
    try simp only [decide_eq_true_eq, decide_eq_false_iff_not, Bool.not_eq_true', Bool.not_eq_false', Bool.not_eq_true, Bool.not_eq_false, beq_iff_eq, bne_iff_ne, beq_eq_false_iff_ne, bne_eq_false_iff_eq, Int.not_lt, Int.not_le, ne_eq] at c1
    simp only [List.length_map] at c1
    have hlt : k < l.length := by omega
    obtain ⟨x, hx⟩ : ∃ x, l[k]? = some x := ⟨_, List.getElem?_eq_getElem hlt⟩
    refine XC.skip ?_
    refine XQ.seq ?_
    refine XC.seq ?_
    refine XC.block ?_
    refine XC.seq ?_
    refine XC.region ?_
    refine XL.op rfl (XO.of_ro rfl (Nat.le_of_ble_eq_true rfl) (RO.move rfl)) ?_
    refine XL.op rfl (XO.of_ro rfl (Nat.le_of_ble_eq_true rfl) (RO.assign rfl)) ?_
    refine XL.nil ?_
    refine XQ.seq ?_
    refine XC.seq ?_
    refine XC.region ?_
    refine XL.op rfl (XO.of_ro rfl (Nat.le_of_ble_eq_true rfl) (RO.move rfl)) ?_
    refine XL.op rfl (XO.of_ro rfl (Nat.le_of_ble_eq_true rfl) (RO.move rfl)) ?_
    refine XL.op rfl (XO.of_ro rfl (Nat.le_of_ble_eq_true rfl) (RO.move rfl)) ?_
    refine XL.op rfl (XO.of_ro rfl (Nat.le_of_ble_eq_true rfl) (RO.index sl_22 rfl (by first | exact SlOf.d _ _ | exact SlOf.app _ _ _ | exact SlOf.nil _) rfl rfl (map_get hx))) ?_
    first | refine XL.op rfl (XO.of_ro rfl (Nat.le_of_ble_eq_true rfl) (RO.loadOwnAgg ag_41 rfl rfl rfl rfl)) ?_ | refine XL.op rfl (XO.of_ro rfl (Nat.le_of_ble_eq_true rfl) (RO.loadPelAgg ag_41 rfl rfl rfl)) ?_
    refine XL.op rfl (XO.callB1 (.inr ⟨_, _, rfl, rfl, rfl⟩) (hf x (List.mem_of_getElem? hx)) (by first | exact Plain.v _ rfl | exact Plain.tup [_, _] (by simp [Value.oneCell'])) rfl (by first | exact .sub (by first | exact .one (.d _) | exact .one (.app _ _ _) | exact .one (.nil _) | exact .agg (by first | exact .nil | (repeat (first | exact .nil | refine .cons (by first | exact .d _ | exact .app _ _ _ | exact .nil _) ?_)))) | exact .ptr rfl (by first | exact .nil | (repeat (first | exact .nil | refine .cons (by first | exact .d _ | exact .app _ _ _ | exact .nil _) ?_))) | exact .fn (by repeat (first | exact .nil | refine .cons rfl (by first | exact .nil | (repeat (first | exact .nil | refine .cons (by first | exact .d _ | exact .app _ _ _ | exact .nil _) ?_))) ?_)) | exact .pel | exact .clo) (Nat.le_of_ble_eq_true rfl)) ?_
    refine XL.nil ?_
    refine XQ.seq ?_
    refine XC.cond rfl (fun c2 => ?_) (fun c2 => ?_)
    ·
      try simp only [decide_eq_true_eq, decide_eq_false_iff_not, Bool.not_eq_true', Bool.not_eq_false', Bool.not_eq_true, Bool.not_eq_false, beq_iff_eq, bne_iff_ne, beq_eq_false_iff_ne, bne_eq_false_iff_eq, Int.not_lt, Int.not_le, ne_eq] at c2
      refine XC.seq ?_
      refine XC.region ?_
      refine XL.op rfl (XO.of_ro rfl (Nat.le_of_ble_eq_true rfl) (RO.move rfl)) ?_
      refine XL.op rfl (XO.of_ro rfl (Nat.le_of_ble_eq_true rfl) (RO.assign rfl)) ?_
      refine XL.nil ?_
      refine XQ.seq ?_
      refine XC.ret ?_
      refine XQ.ret1 (fun _ _ h => h) rfl (RA.tmp rfl) ?s0 rfl
      case s0 => (rw [idxOf_at p l k x hx c2 hn]); exact (by first | exact .one (.d _) | exact .one (.app _ _ _) | exact .one (.nil _) | exact .agg (by first | exact .nil | (repeat (first | exact .nil | refine .cons (by first | exact .d _ | exact .app _ _ _ | exact .nil _) ?_))))
    ·
      try simp only [decide_eq_true_eq, decide_eq_false_iff_not, Bool.not_eq_true', Bool.not_eq_false', Bool.not_eq_true, Bool.not_eq_false, beq_iff_eq, bne_iff_ne, beq_eq_false_iff_ne, bne_eq_false_iff_eq, Int.not_lt, Int.not_le, ne_eq] at c2
      refine XC.skip ?_
      refine XQ.inBlock ?_
      refine XQ.seq ?_
      refine XC.region ?_
      refine XL.op rfl (XO.of_ro rfl (Nat.le_of_ble_eq_true rfl) (RO.arith rfl rfl rfl (by omega) (by omega))) ?_
      refine XL.op rfl (XO.of_ro rfl (Nat.le_of_ble_eq_true rfl) (RO.move rfl)) ?_
      refine XL.nil ?_
      refine XQ.next (k + 1) ⟨(by repeat (first | exact trivial | refine ⟨⟨_, rfl, by first | exact TLe.refl _ | exact TLe.unk _ | exact TLe.sub (by first | exact .app _ _ _ | exact .nil _) | exact TLe.agg (by repeat (first | exact CLs.nil | refine CLs.cons (by first | exact .refl _ | exact .sub (.app _ _ _) | exact .sub (.nil _)) ?_))⟩, ?_⟩)), (by repeat (first | exact trivial | refine ⟨⟨_, rfl, by first | exact BLe.refl _ | exact BLe.cells (by repeat (first | exact CLs.nil | refine CLs.cons (by first | exact .refl _ | exact .sub (.app _ _ _) | exact .sub (.nil _)) ?_))⟩, ?_⟩)), (by repeat (first | exact trivial | refine ⟨(by intro T h; first | (cases h; rfl) | cases h), ?_⟩)), (Nat.le_of_ble_eq_true rfl), Nat.zero_le _, rfl, rfl, (by simp [tmBelow, TV.below, AV.below, CA.below]), (by simp [hpBelow, HB.below, CA.below]), (by simp [tkBelow]), (by simp)⟩ ⟨by omega, ?_⟩ (by omega)
      intro i y hi hy
      rcases Nat.lt_or_ge i k with h | h
      · exact hn i y h hy
      · obtain rfl : i = k := by omega
        rw [hx] at hy; cases hy; exact c2
  ·
    try simp only [decide_eq_true_eq, decide_eq_false_iff_not, Bool.not_eq_true', Bool.not_eq_false', Bool.not_eq_true, Bool.not_eq_false, beq_iff_eq, bne_iff_ne, beq_eq_false_iff_ne, bne_eq_false_iff_eq, Int.not_lt, Int.not_le, ne_eq] at c1
    refine XC.exit ?_
    refine XQ.thenE ?_
    refine XQ.thenE ?_
    refine XQ.blockX ?_
    refine XQ.seq ?_
    refine XC.seq ?_
    refine XC.region ?_
    refine XL.op rfl (XO.of_ro rfl (Nat.le_of_ble_eq_true rfl) (RO.assign rfl)) ?_
    refine XL.nil ?_
    refine XQ.seq ?_
    refine XC.ret ?_
    refine XQ.ret1 (fun _ _ h => h) rfl (RA.tmp rfl) ?s0 rfl
    case s0 => (rw [idxOf_none p l (fun i y hy => hn i y (by have := (List.getElem?_eq_some_iff.1 hy).1; simp only [List.length_map] at c1; omega) hy)]); exact (by first | exact .one (.d _) | exact .one (.app _ _ _) | exact .one (.nil _) | exact .agg (by first | exact .nil | (repeat (first | exact .nil | refine .cons (by first | exact .d _ | exact .app _ _ _ | exact .nil _) ?_))))

set_option maxRecDepth 100000 in
theorem containsBnd (l : List Bnd) (p : Bnd → Bool) (f : FuncId) (caps : List (List C × Nat)) (hlen : l.length ≤ 100000) (hf : ∀ x ∈ l, Fun Try.prog f ([bndA x] ++ caps.map fun q => .one (.pel q.1 q.2)) (TB (p x))) : Fun Try.prog 35 [.one (.d (.sl 4 (l.map bndC))), .one (.clo f caps)] (TB (l.any p)) := by
  refine Fun.of_body 9 9 Try.func35 rfl en_35 rfl (Nat.le_of_ble_eq_true rfl) (fun S w => ?_)
  simp only [entry]
  refine XC.seq ?_
  refine XC.region ?_
  refine XL.op rfl (XO.of_ro rfl (Nat.le_of_ble_eq_true rfl) (RO.assign rfl)) ?_
  refine XL.nil ?_
  refine XQ.seq ?_
  refine XC.seq ?_
  refine XC.region ?_
  refine XL.op rfl (XO.of_ro rfl (Nat.le_of_ble_eq_true rfl) (RO.move rfl)) ?_
  refine XL.op rfl (XO.of_ro rfl (Nat.le_of_ble_eq_true rfl) (RO.move rfl)) ?_
  refine XL.op rfl (XO.callB2 (.inl ⟨rfl, rfl⟩) (indexBnd l p f caps hlen hf) (by first | exact Plain.v _ rfl | exact Plain.tup [_, _] (by simp [Value.oneCell'])) rfl (by first | exact .sub (by first | exact .one (.d _) | exact .one (.app _ _ _) | exact .one (.nil _) | exact .agg (by first | exact .nil | (repeat (first | exact .nil | refine .cons (by first | exact .d _ | exact .app _ _ _ | exact .nil _) ?_)))) | exact .ptr rfl (by first | exact .nil | (repeat (first | exact .nil | refine .cons (by first | exact .d _ | exact .app _ _ _ | exact .nil _) ?_))) | exact .fn (by repeat (first | exact .nil | refine .cons rfl (by first | exact .nil | (repeat (first | exact .nil | refine .cons (by first | exact .d _ | exact .app _ _ _ | exact .nil _) ?_))) ?_)) | exact .pel | exact .clo) rfl (by first | exact .sub (by first | exact .one (.d _) | exact .one (.app _ _ _) | exact .one (.nil _) | exact .agg (by first | exact .nil | (repeat (first | exact .nil | refine .cons (by first | exact .d _ | exact .app _ _ _ | exact .nil _) ?_)))) | exact .ptr rfl (by first | exact .nil | (repeat (first | exact .nil | refine .cons (by first | exact .d _ | exact .app _ _ _ | exact .nil _) ?_))) | exact .fn (by repeat (first | exact .nil | refine .cons rfl (by first | exact .nil | (repeat (first | exact .nil | refine .cons (by first | exact .d _ | exact .app _ _ _ | exact .nil _) ?_))) ?_)) | exact .pel | exact .clo) (Nat.le_of_ble_eq_true rfl)) ?_
  refine XL.op rfl (XO.of_ro rfl (Nat.le_of_ble_eq_true rfl) (RO.cmp rfl rfl rfl)) ?_
  refine XL.op rfl (XO.of_ro rfl (Nat.le_of_ble_eq_true rfl) (RO.assign rfl)) ?_
  refine XL.nil ?_
  refine XQ.seq ?_
  refine XC.ret ?_
  refine XQ.ret1 (fun _ _ h => h) rfl (RA.tmp rfl) ?s0 rfl
  case s0 => (rw [← idxOf_pos p l]); exact (by first | exact .one (.d _) | exact .one (.app _ _ _) | exact .one (.nil _) | exact .agg (by first | exact .nil | (repeat (first | exact .nil | refine .cons (by first | exact .d _ | exact .app _ _ _ | exact .nil _) ?_))))

set_option maxRecDepth 100000 in
theorem indexInt (l : List Int) (p : Int → Bool) (f : FuncId) (caps : List (List C × Nat)) (hlen : l.length ≤ 100000) (hf : ∀ x ∈ l, Fun Try.prog f ([.one (.d (.v (.int .i64 x)))] ++ caps.map fun q => .one (.pel q.1 q.2)) (TB (p x))) : Fun Try.prog 75 [.one (.d (.sl 1 (l.map intC))), .one (.clo f caps)] (TI (idxOf p l)) := by
  refine Fun.of_body 9 19 Try.func75 rfl en_75 rfl (Nat.le_of_ble_eq_true rfl) (fun S w => ?_)
  simp only [entry]
  refine XC.seq ?_
  refine XC.region ?_
  refine XL.op rfl (XO.of_ro rfl (Nat.le_of_ble_eq_true rfl) (RO.assign rfl)) ?_
  refine XL.nil ?_
  refine XQ.seq ?_
  refine XC.seq ?_
  refine XC.seq ?_
  refine XC.region ?_
  refine XL.op rfl (XO.of_ro rfl (Nat.le_of_ble_eq_true rfl) (RO.move rfl)) ?_
  refine XL.op rfl (XO.of_ro rfl (Nat.le_of_ble_eq_true rfl) (RO.len sl_66 rfl (by first | exact SlOf.d _ _ | exact SlOf.app _ _ _ | exact SlOf.nil _))) ?_
  refine XL.op rfl (XO.of_ro rfl (Nat.le_of_ble_eq_true rfl) (RO.move rfl)) ?_
  refine XL.nil ?_
  refine XQ.seq ?_
  refine XC.block ?_
  refine XC.loop (X := Nat) (fun k => ⟨[(0, .v (.one (.d (.sl 1 (l.map intC))))), (1, .v (.one (.clo f caps))), (7, TI (l.map intC).length), (8, TI k)], [], [], 0, 19, []⟩) (fun k => k ≤ l.length ∧ ∀ (i : Nat) (x : Int), i < k → l[i]? = some x → p x = false) (fun k => l.length - k) 0 ⟨(by repeat (first | exact trivial | refine ⟨⟨_, rfl, by first | exact TLe.refl _ | exact TLe.unk _ | exact TLe.sub (by first | exact .app _ _ _ | exact .nil _) | exact TLe.agg (by repeat (first | exact CLs.nil | refine CLs.cons (by first | exact .refl _ | exact .sub (.app _ _ _) | exact .sub (.nil _)) ?_))⟩, ?_⟩)), (by repeat (first | exact trivial | refine ⟨⟨_, rfl, by first | exact BLe.refl _ | exact BLe.cells (by repeat (first | exact CLs.nil | refine CLs.cons (by first | exact .refl _ | exact .sub (.app _ _ _) | exact .sub (.nil _)) ?_))⟩, ?_⟩)), (by repeat (first | exact trivial | refine ⟨(by intro T h; first | (cases h; rfl) | cases h), ?_⟩)), (Nat.le_of_ble_eq_true rfl), Nat.zero_le _, rfl, rfl, (by simp [tmBelow, TV.below, AV.below, CA.below]), (by simp [hpBelow, HB.below, CA.below]), (by simp [tkBelow]), (by simp)⟩ ⟨Nat.zero_le _, fun i e h => absurd h (Nat.not_lt_zero i)⟩ ?_
  rintro k ⟨hk, hn⟩
  try dsimp only
  refine XC.seq ?_
  refine XC.region ?_
  refine XL.op rfl (XO.of_ro rfl (Nat.le_of_ble_eq_true rfl) (RO.cmp rfl rfl rfl)) ?_
  refine XL.nil ?_
  refine XQ.seq ?_
  refine XC.seq ?_
  refine XC.cond rfl (fun c1 => ?_) (fun c1 => ?_)
  ·
    try simp only [decide_eq_true_eq, decide_eq_false_iff_not, Bool.not_eq_true', Bool.not_eq_false', Bool.not_eq_true, Bool.not_eq_false, beq_iff_eq, bne_iff_ne, beq_eq_false_iff_ne, bne_eq_false_iff_eq, Int.not_lt, Int.not_le, ne_eq] at c1
    simp only [List.length_map] at c1
    have hlt : k < l.length := by omega
    obtain ⟨x, hx⟩ : ∃ x, l[k]? = some x := ⟨_, List.getElem?_eq_getElem hlt⟩
    refine XC.skip ?_
    refine XQ.seq ?_
    refine XC.seq ?_
    refine XC.block ?_
    refine XC.seq ?_
    refine XC.region ?_
    refine XL.op rfl (XO.of_ro rfl (Nat.le_of_ble_eq_true rfl) (RO.move rfl)) ?_
    refine XL.op rfl (XO.of_ro rfl (Nat.le_of_ble_eq_true rfl) (RO.assign rfl)) ?_
    refine XL.nil ?_
    refine XQ.seq ?_
    refine XC.seq ?_
    refine XC.region ?_
    refine XL.op rfl (XO.of_ro rfl (Nat.le_of_ble_eq_true rfl) (RO.move rfl)) ?_
    refine XL.op rfl (XO.of_ro rfl (Nat.le_of_ble_eq_true rfl) (RO.move rfl)) ?_
    refine XL.op rfl (XO.of_ro rfl (Nat.le_of_ble_eq_true rfl) (RO.move rfl)) ?_
    refine XL.op rfl (XO.of_ro rfl (Nat.le_of_ble_eq_true rfl) (RO.index sl_66 rfl (by first | exact SlOf.d _ _ | exact SlOf.app _ _ _ | exact SlOf.nil _) rfl rfl (map_get hx))) ?_
    first | refine XL.op rfl (XO.of_ro rfl (Nat.le_of_ble_eq_true rfl) (RO.loadOwn ag_3 rfl rfl rfl)) ?_ | refine XL.op rfl (XO.of_ro rfl (Nat.le_of_ble_eq_true rfl) (RO.loadPel ag_3 rfl rfl)) ?_
    refine XL.op rfl (XO.callB1 (.inr ⟨_, _, rfl, rfl, rfl⟩) (hf x (List.mem_of_getElem? hx)) (by first | exact Plain.v _ rfl | exact Plain.tup [_, _] (by simp [Value.oneCell'])) rfl (by first | exact .sub (by first | exact .one (.d _) | exact .one (.app _ _ _) | exact .one (.nil _) | exact .agg (by first | exact .nil | (repeat (first | exact .nil | refine .cons (by first | exact .d _ | exact .app _ _ _ | exact .nil _) ?_)))) | exact .ptr rfl (by first | exact .nil | (repeat (first | exact .nil | refine .cons (by first | exact .d _ | exact .app _ _ _ | exact .nil _) ?_))) | exact .fn (by repeat (first | exact .nil | refine .cons rfl (by first | exact .nil | (repeat (first | exact .nil | refine .cons (by first | exact .d _ | exact .app _ _ _ | exact .nil _) ?_))) ?_)) | exact .pel | exact .clo) (Nat.le_of_ble_eq_true rfl)) ?_
    refine XL.nil ?_
    refine XQ.seq ?_
    refine XC.cond rfl (fun c2 => ?_) (fun c2 => ?_)
    ·
      try simp only [decide_eq_true_eq, decide_eq_false_iff_not, Bool.not_eq_true', Bool.not_eq_false', Bool.not_eq_true, Bool.not_eq_false, beq_iff_eq, bne_iff_ne, beq_eq_false_iff_ne, bne_eq_false_iff_eq, Int.not_lt, Int.not_le, ne_eq] at c2
      refine XC.seq ?_
      refine XC.region ?_
      refine XL.op rfl (XO.of_ro rfl (Nat.le_of_ble_eq_true rfl) (RO.move rfl)) ?_
      refine XL.op rfl (XO.of_ro rfl (Nat.le_of_ble_eq_true rfl) (RO.assign rfl)) ?_
      refine XL.nil ?_
      refine XQ.seq ?_
      refine XC.ret ?_
      refine XQ.ret1 (fun _ _ h => h) rfl (RA.tmp rfl) ?s0 rfl
      case s0 => (rw [idxOf_at p l k x hx c2 hn]); exact (by first | exact .one (.d _) | exact .one (.app _ _ _) | exact .one (.nil _) | exact .agg (by first | exact .nil | (repeat (first | exact .nil | refine .cons (by first | exact .d _ | exact .app _ _ _ | exact .nil _) ?_))))
    ·
      try simp only [decide_eq_true_eq, decide_eq_false_iff_not, Bool.not_eq_true', Bool.not_eq_false', Bool.not_eq_true, Bool.not_eq_false, beq_iff_eq, bne_iff_ne, beq_eq_false_iff_ne, bne_eq_false_iff_eq, Int.not_lt, Int.not_le, ne_eq] at c2
      refine XC.skip ?_
      refine XQ.inBlock ?_
      refine XQ.seq ?_
      refine XC.region ?_
      refine XL.op rfl (XO.of_ro rfl (Nat.le_of_ble_eq_true rfl) (RO.arith rfl rfl rfl (by omega) (by omega))) ?_
      refine XL.op rfl (XO.of_ro rfl (Nat.le_of_ble_eq_true rfl) (RO.move rfl)) ?_
      refine XL.nil ?_
      refine XQ.next (k + 1) ⟨(by repeat (first | exact trivial | refine ⟨⟨_, rfl, by first | exact TLe.refl _ | exact TLe.unk _ | exact TLe.sub (by first | exact .app _ _ _ | exact .nil _) | exact TLe.agg (by repeat (first | exact CLs.nil | refine CLs.cons (by first | exact .refl _ | exact .sub (.app _ _ _) | exact .sub (.nil _)) ?_))⟩, ?_⟩)), (by repeat (first | exact trivial | refine ⟨⟨_, rfl, by first | exact BLe.refl _ | exact BLe.cells (by repeat (first | exact CLs.nil | refine CLs.cons (by first | exact .refl _ | exact .sub (.app _ _ _) | exact .sub (.nil _)) ?_))⟩, ?_⟩)), (by repeat (first | exact trivial | refine ⟨(by intro T h; first | (cases h; rfl) | cases h), ?_⟩)), (Nat.le_of_ble_eq_true rfl), Nat.zero_le _, rfl, rfl, (by simp [tmBelow, TV.below, AV.below, CA.below]), (by simp [hpBelow, HB.below, CA.below]), (by simp [tkBelow]), (by simp)⟩ ⟨by omega, ?_⟩ (by omega)
      intro i y hi hy
      rcases Nat.lt_or_ge i k with h | h
      · exact hn i y h hy
      · obtain rfl : i = k := by omega
        rw [hx] at hy; cases hy; exact c2
  ·
    try simp only [decide_eq_true_eq, decide_eq_false_iff_not, Bool.not_eq_true', Bool.not_eq_false', Bool.not_eq_true, Bool.not_eq_false, beq_iff_eq, bne_iff_ne, beq_eq_false_iff_ne, bne_eq_false_iff_eq, Int.not_lt, Int.not_le, ne_eq] at c1
    refine XC.exit ?_
    refine XQ.thenE ?_
    refine XQ.thenE ?_
    refine XQ.blockX ?_
    refine XQ.seq ?_
    refine XC.seq ?_
    refine XC.region ?_
    refine XL.op rfl (XO.of_ro rfl (Nat.le_of_ble_eq_true rfl) (RO.assign rfl)) ?_
    refine XL.nil ?_
    refine XQ.seq ?_
    refine XC.ret ?_
    refine XQ.ret1 (fun _ _ h => h) rfl (RA.tmp rfl) ?s0 rfl
    case s0 => (rw [idxOf_none p l (fun i y hy => hn i y (by have := (List.getElem?_eq_some_iff.1 hy).1; simp only [List.length_map] at c1; omega) hy)]); exact (by first | exact .one (.d _) | exact .one (.app _ _ _) | exact .one (.nil _) | exact .agg (by first | exact .nil | (repeat (first | exact .nil | refine .cons (by first | exact .d _ | exact .app _ _ _ | exact .nil _) ?_))))

set_option maxRecDepth 100000 in
theorem containsInt (l : List Int) (p : Int → Bool) (f : FuncId) (caps : List (List C × Nat)) (hlen : l.length ≤ 100000) (hf : ∀ x ∈ l, Fun Try.prog f ([.one (.d (.v (.int .i64 x)))] ++ caps.map fun q => .one (.pel q.1 q.2)) (TB (p x))) : Fun Try.prog 52 [.one (.d (.sl 1 (l.map intC))), .one (.clo f caps)] (TB (l.any p)) := by
  refine Fun.of_body 9 9 Try.func52 rfl en_52 rfl (Nat.le_of_ble_eq_true rfl) (fun S w => ?_)
  simp only [entry]
  refine XC.seq ?_
  refine XC.region ?_
  refine XL.op rfl (XO.of_ro rfl (Nat.le_of_ble_eq_true rfl) (RO.assign rfl)) ?_
  refine XL.nil ?_
  refine XQ.seq ?_
  refine XC.seq ?_
  refine XC.region ?_
  refine XL.op rfl (XO.of_ro rfl (Nat.le_of_ble_eq_true rfl) (RO.move rfl)) ?_
  refine XL.op rfl (XO.of_ro rfl (Nat.le_of_ble_eq_true rfl) (RO.move rfl)) ?_
  refine XL.op rfl (XO.callB2 (.inl ⟨rfl, rfl⟩) (indexInt l p f caps hlen hf) (by first | exact Plain.v _ rfl | exact Plain.tup [_, _] (by simp [Value.oneCell'])) rfl (by first | exact .sub (by first | exact .one (.d _) | exact .one (.app _ _ _) | exact .one (.nil _) | exact .agg (by first | exact .nil | (repeat (first | exact .nil | refine .cons (by first | exact .d _ | exact .app _ _ _ | exact .nil _) ?_)))) | exact .ptr rfl (by first | exact .nil | (repeat (first | exact .nil | refine .cons (by first | exact .d _ | exact .app _ _ _ | exact .nil _) ?_))) | exact .fn (by repeat (first | exact .nil | refine .cons rfl (by first | exact .nil | (repeat (first | exact .nil | refine .cons (by first | exact .d _ | exact .app _ _ _ | exact .nil _) ?_))) ?_)) | exact .pel | exact .clo) rfl (by first | exact .sub (by first | exact .one (.d _) | exact .one (.app _ _ _) | exact .one (.nil _) | exact .agg (by first | exact .nil | (repeat (first | exact .nil | refine .cons (by first | exact .d _ | exact .app _ _ _ | exact .nil _) ?_)))) | exact .ptr rfl (by first | exact .nil | (repeat (first | exact .nil | refine .cons (by first | exact .d _ | exact .app _ _ _ | exact .nil _) ?_))) | exact .fn (by repeat (first | exact .nil | refine .cons rfl (by first | exact .nil | (repeat (first | exact .nil | refine .cons (by first | exact .d _ | exact .app _ _ _ | exact .nil _) ?_))) ?_)) | exact .pel | exact .clo) (Nat.le_of_ble_eq_true rfl)) ?_
  refine XL.op rfl (XO.of_ro rfl (Nat.le_of_ble_eq_true rfl) (RO.cmp rfl rfl rfl)) ?_
  refine XL.op rfl (XO.of_ro rfl (Nat.le_of_ble_eq_true rfl) (RO.assign rfl)) ?_
  refine XL.nil ?_
  refine XQ.seq ?_
  refine XC.ret ?_
  refine XQ.ret1 (fun _ _ h => h) rfl (RA.tmp rfl) ?s0 rfl
  case s0 => (rw [← idxOf_pos p l]); exact (by first | exact .one (.d _) | exact .one (.app _ _ _) | exact .one (.nil _) | exact .agg (by first | exact .nil | (repeat (first | exact .nil | refine .cons (by first | exact .d _ | exact .app _ _ _ | exact .nil _) ?_))))

set_option maxRecDepth 100000 in
theorem covered1 (x : LV) (L : Lvl) : Fun Try.prog 74 [lvA x, .one (.pel (lvlC L) 0)] (TB (decide (L.c ≤ x.2))) := by
  refine Fun.of_body 9 9 Try.func74 rfl en_74 rfl (Nat.le_of_ble_eq_true rfl) (fun S w => ?_)
  simp only [entry]
  refine XC.seq ?_
  refine XC.region ?_
  refine XL.op rfl (XO.box rfl (Nat.le_of_ble_eq_true rfl)) ?_
  refine XL.op rfl (XO.of_ro rfl (Nat.le_of_ble_eq_true rfl) (RO.assign rfl)) ?_
  refine XL.nil ?_
  refine XQ.seq ?_
  refine XC.seq ?_
  refine XC.region ?_
  first | refine XL.op rfl (XO.of_ro rfl (Nat.le_of_ble_eq_true rfl) (RO.fieldOwn fo_59_1 rfl)) ?_ | refine XL.op rfl (XO.of_ro rfl (Nat.le_of_ble_eq_true rfl) (RO.fieldPel fo_59_1 rfl)) ?_
  first | refine XL.op rfl (XO.of_ro rfl (Nat.le_of_ble_eq_true rfl) (RO.loadOwn ag_3 rfl rfl rfl)) ?_ | refine XL.op rfl (XO.of_ro rfl (Nat.le_of_ble_eq_true rfl) (RO.loadPel ag_3 rfl rfl)) ?_
  first | refine XL.op rfl (XO.of_ro rfl (Nat.le_of_ble_eq_true rfl) (RO.fieldOwn fo_39_0 rfl)) ?_ | refine XL.op rfl (XO.of_ro rfl (Nat.le_of_ble_eq_true rfl) (RO.fieldPel fo_39_0 rfl)) ?_
  first | refine XL.op rfl (XO.of_ro rfl (Nat.le_of_ble_eq_true rfl) (RO.loadOwn ag_3 rfl rfl rfl)) ?_ | refine XL.op rfl (XO.of_ro rfl (Nat.le_of_ble_eq_true rfl) (RO.loadPel ag_3 rfl rfl)) ?_
  refine XL.op rfl (XO.of_ro rfl (Nat.le_of_ble_eq_true rfl) (RO.cmp rfl rfl rfl)) ?_
  refine XL.op rfl (XO.of_ro rfl (Nat.le_of_ble_eq_true rfl) (RO.assign rfl)) ?_
  refine XL.nil ?_
  refine XQ.seq ?_
  refine XC.ret ?_
  refine XQ.ret1 (fun _ _ h => h) rfl (RA.tmp rfl) ?s0 rfl
  case s0 => exact (by first | exact .one (.d _) | exact .one (.app _ _ _) | exact .one (.nil _) | exact .agg (by first | exact .nil | (repeat (first | exact .nil | refine .cons (by first | exact .d _ | exact .app _ _ _ | exact .nil _) ?_))))

set_option maxRecDepth 100000 in
theorem covered_fun (L : Lvl) (hlen : L.vs.length ≤ 100000) : Fun Try.prog 51 [lvlA L] (TB (covB L.c L.vs)) := by
  refine Fun.of_body 9 7 Try.func51 rfl en_51 rfl (Nat.le_of_ble_eq_true rfl) (fun S w => ?_)
  simp only [entry]
  refine XC.seq ?_
  refine XC.region ?_
  refine XL.op rfl (XO.box rfl (Nat.le_of_ble_eq_true rfl)) ?_
  refine XL.op rfl (XO.of_ro rfl (Nat.le_of_ble_eq_true rfl) (RO.assign rfl)) ?_
  refine XL.nil ?_
  refine XQ.seq ?_
  refine XC.seq ?_
  refine XC.region ?_
  first | refine XL.op rfl (XO.of_ro rfl (Nat.le_of_ble_eq_true rfl) (RO.fieldOwn fo_39_1 rfl)) ?_ | refine XL.op rfl (XO.of_ro rfl (Nat.le_of_ble_eq_true rfl) (RO.fieldPel fo_39_1 rfl)) ?_
  first | refine XL.op rfl (XO.of_ro rfl (Nat.le_of_ble_eq_true rfl) (RO.loadOwn ag_37 rfl rfl rfl)) ?_ | refine XL.op rfl (XO.of_ro rfl (Nat.le_of_ble_eq_true rfl) (RO.loadPel ag_37 rfl rfl)) ?_
  refine XL.op rfl (XO.of_ro rfl (Nat.le_of_ble_eq_true rfl) (RO.makeFunc1 rfl)) ?_
  refine XL.op rfl (XO.callB2 (.inl ⟨rfl, rfl⟩) (containsLV L.vs (fun x => decide (L.c ≤ x.2)) 74 [(lvlC L, 0)] hlen (fun x _ => covered1 x L)) (by first | exact Plain.v _ rfl | exact Plain.tup [_, _] (by simp [Value.oneCell'])) rfl (by first | exact .sub (by first | exact .one (.d _) | exact .one (.app _ _ _) | exact .one (.nil _) | exact .agg (by first | exact .nil | (repeat (first | exact .nil | refine .cons (by first | exact .d _ | exact .app _ _ _ | exact .nil _) ?_)))) | exact .ptr rfl (by first | exact .nil | (repeat (first | exact .nil | refine .cons (by first | exact .d _ | exact .app _ _ _ | exact .nil _) ?_))) | exact .fn (by repeat (first | exact .nil | refine .cons rfl (by first | exact .nil | (repeat (first | exact .nil | refine .cons (by first | exact .d _ | exact .app _ _ _ | exact .nil _) ?_))) ?_)) | exact .pel | exact .clo) rfl (by first | exact .sub (by first | exact .one (.d _) | exact .one (.app _ _ _) | exact .one (.nil _) | exact .agg (by first | exact .nil | (repeat (first | exact .nil | refine .cons (by first | exact .d _ | exact .app _ _ _ | exact .nil _) ?_)))) | exact .ptr rfl (by first | exact .nil | (repeat (first | exact .nil | refine .cons (by first | exact .d _ | exact .app _ _ _ | exact .nil _) ?_))) | exact .fn (by repeat (first | exact .nil | refine .cons rfl (by first | exact .nil | (repeat (first | exact .nil | refine .cons (by first | exact .d _ | exact .app _ _ _ | exact .nil _) ?_))) ?_)) | exact .pel | exact .clo) (Nat.le_of_ble_eq_true rfl)) ?_
  refine XL.op rfl (XO.of_ro rfl (Nat.le_of_ble_eq_true rfl) (RO.assign rfl)) ?_
  refine XL.nil ?_
  refine XQ.seq ?_
  refine XC.ret ?_
  refine XQ.ret1 (fun _ _ h => h) rfl (RA.tmp rfl) ?s0 rfl
  case s0 => exact (by first | exact .one (.d _) | exact .one (.app _ _ _) | exact .one (.nil _) | exact .agg (by first | exact .nil | (repeat (first | exact .nil | refine .cons (by first | exact .d _ | exact .app _ _ _ | exact .nil _) ?_))))
end Go.Proofs.Ytkimijmiphkddaa
