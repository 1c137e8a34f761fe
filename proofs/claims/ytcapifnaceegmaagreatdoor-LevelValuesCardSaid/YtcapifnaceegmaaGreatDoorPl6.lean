/- Mirrors of layer 1: the law of Leq by values. Plain laws of layer 1: values of levels; a level is at most another one exactly if its value is, at 0 and 500. -/
import Derived.Test.YtcapifnaceegmaaGreatDoorMv
import Derived.Test.YtcapifnaceegmaaGreatDoorAw
import Derived.Test.YtcapifnaceegmaaGreatDoorPb
namespace Go.Proofs.YtcapifnaceegmaaGreatDoor
section
open Go.RowKit Go.Shelf
set_option linter.unusedSimpArgs false
set_option linter.unusedVariables false

theorem z_3 : tyZero Tryz.prog 3 = some [.int .i64 0] := by kernel_rfl
theorem en_6 : Enters Tryz.prog 6 := enters_of Tryz.func6 (by kernel_rfl) rfl
def m6_l0 (a0 : Lvl) (a1 : Lvl) (s1 : Bool × Int) : Option (LO (Bool × Int) Bool) :=
  cond (decide (s1.2 < 8))
    (Option.bind (cond s1.1
    (Option.bind (m28 a0 ([(w64 (500 * (Int.tmod s1.2 2))), (w64 (500 * (Int.tmod (w64 (Int.tdiv s1.2 2)) 2))), (w64 (500 * (w64 (Int.tdiv s1.2 4))))])) fun (x7 : Int) =>
  Option.bind (m28 a1 ([(w64 (500 * (Int.tmod s1.2 2))), (w64 (500 * (Int.tmod (w64 (Int.tdiv s1.2 2)) 2))), (w64 (500 * (w64 (Int.tdiv s1.2 4))))])) fun (x8 : Int) =>
  some (decide (x7 ≤ x8)))
    (some false)) (fun (v5 : Bool) => some (.next (v5, (w64 (s1.2 + 1))))))
    (some (.done s1.1))

/-- euclid/euclidlaw01.LevelBelow -/
def m6 (a0 : Lvl) (a1 : Lvl) : Option Bool :=
  Option.bind (Option.bind (m13 ([a0, a1])) fun (x2 : Bool) =>
  cond (!x2)
    (some true)
    (Option.bind (m28 a0 ([0, 0, 0])) fun (x4 : Int) =>
  cond (decide (x4 < 0))
    (some true)
    (Option.bind (m28 a1 ([0, 0, 0])) fun (x6 : Int) =>
  some (decide (x6 < 0))))) (fun (v1 : Bool) => cond v1
    (some true)
    (Option.bind (loopN (m6_l0 a0 a1) FUEL (true, 0)) (fun (o3 : Bool) => Option.bind (guardO ((cond (Nat.ble a0.vs.length 100000) (Nat.ble a1.vs.length 100000) false))
  (cond ((leqB a0 a1) == o3)
    (some true)
    (some false))) (fun (v4 : Bool) => some v4))))

set_option maxRecDepth 100000 in
set_option maxHeartbeats 8000000 in
theorem m6_ok (a0 : Lvl) (a1 : Lvl) (r : Bool) (h0 : m6 a0 a1 = some r) : Fun Tryz.prog 6 [.agg (cE a0), .agg (cE a1)] (resOf [.one (dB r)]) := by
  unfold m6 at h0
  refine Fun.of_bodyM 9 59 Tryz.func6 rfl en_6 rfl (lb rfl) (fun S w => ?_)
  simp only [entry]
  refine XC.seq <| XC.region <| XL.put rfl rfl (lb rfl) (OpOK.box rfl) <| XL.put rfl rfl (lb rfl) (OpOK.box rfl) <| rA rfl rfl rfl <| XL.nil <| XQ.seq <| XC.seq <| XC.seq ?_
  refine XC.joinR (fun (v1 : Bool) => ⟨[(2, .v (.one (.ptr 0 0))), (3, .v (.one (.ptr 1 0))), (24, .v (.one (dB v1)))], [(0, .cells 24 (cE a0)), (1, .cells 24 (cE a1))], [], 2, 59, []⟩) (fun (v1 : Bool) => (cond v1
      (some true)
      (Option.bind (loopN (m6_l0 a0 a1) FUEL (true, 0)) (fun (o3 : Bool) => Option.bind (guardO ((cond (Nat.ble a0.vs.length 100000) (Nat.ble a1.vs.length 100000) false))
    (cond ((leqB a0 a1) == o3)
      (some true)
      (some false))) (fun (v4 : Bool) => some v4)))) = some r) ?_ ?_
  ·
   refine bindK h0 (fun v_ h1 h0 => ?_)
   refine XC.region <| rR rfl rfl rfl (RO.loadOwnAgg ag_24 rfl rfl rfl rfl) <| rR rfl rfl rfl (RO.loadOwnAgg ag_24 rfl rfl rfl rfl) <| XL.put rfl rfl (lb rfl) (OpOK.data2E (α := Lvl) a0 a1 sl_55 z_24 rfl rfl (lb rfl) rfl rfl rfl (.cons (.d _) (.cons (.d _) (.cons (.d _) (.cons (.d _) .nil)))) ⟨rfl, rfl⟩) ?_
   refine bindK h1 (fun x2 hx2 h1 => ?_)
   refine XL.put rfl rfl (lb rfl) (OpOK.callFun (m13_ok ([a0, a1]) x2 hx2) rfl (.cons (.one (.d _)) .nil)) <| rR rfl rfl rfl (RO.not rfl) <| rM rfl rfl rfl ?_
   refine XL.case (d := 13) (c := (!x2)) rfl (fun c3 => ?_) (fun c3 => ?_)
   ·
    replace h1 := condT c3 h1
    refine XL.no rfl rfl <| XL.no rfl rfl <| XL.no rfl rfl <| XL.no rfl rfl <| rR rfl rfl rfl (RO.pickT rfl rfl) <| rM rfl rfl rfl <| XL.no rfl rfl <| XL.no rfl rfl <| XL.no rfl rfl <| XL.no rfl rfl <| rR rfl rfl rfl (RO.pickT rfl rfl) <| XL.nil ?_
    have e_ := Option.some.inj h1
    subst e_
    exact XQ.joinR true (stle (tR rfl (tR rfl (tR rfl tZ))) (hR rfl (hR rfl hZ)) kZ rfl (Nat.zero_le _) rfl rfl rfl (bB rfl rfl (bB rfl rfl bZ)) rfl rfl) h0
   ·
    replace h1 := condF c3 h1
    refine rR rfl rfl rfl (RO.loadOwnAgg ag_24 rfl rfl rfl rfl) <| XL.put rfl rfl (lb rfl) (OpOK.data3E (α := Int) 0 0 0 sl_46 z_3 rfl rfl (lb rfl) rfl rfl rfl rfl (.cons (.d _) (.cons (.d _) (.cons (.d _) .nil))) ⟨rfl, rfl, rfl⟩) ?_
    refine bindK h1 (fun x4 hx4 h1 => ?_)
    refine XL.put rfl rfl (lb rfl) (OpOK.callFun (m28_ok a0 ([0, 0, 0]) x4 hx4) rfl (.cons (.agg (.cons (.d _) (.cons (.d _) .nil))) (.cons (.one (.d _)) .nil))) <| rR rfl rfl rfl (RO.binInt rfl rfl rfl) <| rR rfl rfl rfl (RO.pickF rfl rfl) <| rM rfl rfl rfl ?_
    refine XL.case (d := 19) (c := (decide (x4 < 0))) rfl (fun c5 => ?_) (fun c5 => ?_)
    ·
     replace h1 := condT c5 h1
     refine XL.no rfl rfl <| XL.no rfl rfl <| XL.no rfl rfl <| XL.no rfl rfl <| rR rfl rfl rfl (RO.pickT rfl rfl) <| XL.nil ?_
     have e_ := Option.some.inj h1
     subst e_
     exact XQ.joinR true (stle (tR rfl (tR rfl (tR rfl tZ))) (hR rfl (hR rfl hZ)) kZ rfl (Nat.zero_le _) rfl rfl rfl (bB rfl rfl (bB rfl rfl bZ)) rfl rfl) h0
    ·
     replace h1 := condF c5 h1
     refine rR rfl rfl rfl (RO.loadOwnAgg ag_24 rfl rfl rfl rfl) <| XL.put rfl rfl (lb rfl) (OpOK.data3E (α := Int) 0 0 0 sl_46 z_3 rfl rfl (lb rfl) rfl rfl rfl rfl (.cons (.d _) (.cons (.d _) (.cons (.d _) .nil))) ⟨rfl, rfl, rfl⟩) ?_
     refine bindK h1 (fun x6 hx6 h1 => ?_)
     refine XL.put rfl rfl (lb rfl) (OpOK.callFun (m28_ok a1 ([0, 0, 0]) x6 hx6) rfl (.cons (.agg (.cons (.d _) (.cons (.d _) .nil))) (.cons (.one (.d _)) .nil))) <| rR rfl rfl rfl (RO.binInt rfl rfl rfl) <| rR rfl rfl rfl (RO.pickF rfl rfl) <| XL.nil ?_
     have e_ := Option.some.inj h1
     subst e_
     exact XQ.joinR (decide (x6 < 0)) (stle (tR rfl (tR rfl (tR rfl tZ))) (hR rfl (hR rfl hZ)) kZ rfl (Nat.zero_le _) rfl rfl rfl (bB rfl rfl (bB rfl rfl bZ)) rfl rfl) h0
  ·
   intro v1 h0
   refine XQ.seq ?_
   refine XC.cond (b := v1) rfl (fun c7 => ?_) (fun c7 => ?_)
   ·
    replace h0 := condT c7 h0
    refine XC.seq <| XC.region <| XL.put rfl rfl (lb rfl) (OpOK.callFun (awake_fun) rfl .nil) <| rA rfl rfl rfl <| XL.nil <| XQ.seq <| XC.ret ?_
    have e_ := Option.some.inj h0
    subst e_
    exact XQ.retF (fun _ _ h => h) rfl (RAs.tmp rfl .nil) (.cons (.one (.d _)) .nil)
   ·
    replace h0 := condF c7 h0
    refine XC.skip <| XQ.seq <| XC.seq <| XC.region <| rA rfl rfl rfl <| XL.nil <| XQ.seq <| XC.seq <| XC.seq <| XC.region <| rM rfl rfl rfl <| XL.nil <| XQ.seq <| XC.block ?_
    refine XC.joinX 0 (fun (o8 : Bool) => ⟨[(2, .v (.one (.ptr 0 0))), (3, .v (.one (.ptr 1 0))), (5, .v (.one (dB o8)))], [(0, .cells 24 (cE a0)), (1, .cells 24 (cE a1))], [], 2, 59, []⟩) (fun (o8 : Bool) => (Option.bind (guardO ((cond (Nat.ble a0.vs.length 100000) (Nat.ble a1.vs.length 100000) false))
      (cond ((leqB a0 a1) == o8)
        (some true)
        (some false))) (fun (v9 : Bool) => some v9)) = some r) ?_ ?_
    ·
     refine bindK h0 (fun o9 hl1 h0 => ?_)
     refine XC.loopM (m6_l0 a0 a1) (fun s1 => ⟨[(2, .v (.one (.ptr 0 0))), (3, .v (.one (.ptr 1 0))), (5, .v (.one (dB s1.1))), (26, .v (.one (dI s1.2)))], [(0, .cells 24 (cE a0)), (1, .cells 24 (cE a1))], [], 2, 59, []⟩) (true, 0) o9 (stle (tR rfl (tR rfl (tR rfl (tR rfl tZ)))) (hR rfl (hR rfl hZ)) kZ rfl (Nat.zero_le _) rfl rfl rfl (bB rfl rfl (bB rfl rfl bZ)) rfl rfl) hl1 (fun s1 n1 oo1 h1 ho1 => ?_)
     unfold m6_l0 at h1
     refine XC.seq <| XC.region <| rR rfl rfl rfl (RO.binInt rfl rfl rfl) <| XL.nil <| XQ.seq <| XC.seq ?_
     refine XC.cond (b := (decide (s1.2 < 8))) rfl (fun c10 => ?_) (fun c10 => ?_)
     ·
      replace h1 := condT c10 h1
      refine XC.skip <| XQ.seq <| XC.seq <| XC.block <| XC.seq <| XC.region <| rM rfl rfl rfl <| rA rfl rfl rfl <| XL.nil <| XQ.seq <| XC.seq <| XC.region <| rM rfl rfl rfl <| rR rfl rfl rfl (RO.binInt rfl rfl rfl) ?_
      refine rR rfl rfl rfl (RO.binInt rfl rfl rfl) <| rM rfl rfl rfl <| rR rfl rfl rfl (RO.binInt rfl rfl rfl) <| rR rfl rfl rfl (RO.binInt rfl rfl rfl) <| rR rfl rfl rfl (RO.binInt rfl rfl rfl) <| rM rfl rfl rfl <| rR rfl rfl rfl (RO.binInt rfl rfl rfl) <| rR rfl rfl rfl (RO.binInt rfl rfl rfl) <| XL.put rfl rfl (lb rfl) (OpOK.data3E (α := Int) (w64 (500 * (Int.tmod s1.2 2))) (w64 (500 * (Int.tmod (w64 (Int.tdiv s1.2 2)) 2))) (w64 (500 * (w64 (Int.tdiv s1.2 4)))) sl_46 z_3 rfl rfl (lb rfl) rfl rfl rfl rfl (.cons (.d _) (.cons (.d _) (.cons (.d _) .nil))) ⟨rfl, rfl, rfl⟩) <| rA rfl rfl rfl <| XL.nil <| XQ.seq ?_
      refine XC.joinR (fun (v11 : Bool) => ⟨[(2, .v (.one (.ptr 0 0))), (3, .v (.one (.ptr 1 0))), (5, .v (.one (dB v11))), (26, .v (.one (dI s1.2)))], [(0, .cells 24 (cE a0)), (1, .cells 24 (cE a1))], [], 2, 59, []⟩) (fun (v11 : Bool) => (some (.next (v11, (w64 (s1.2 + 1))))) = some oo1) ?_ ?_
      ·
       refine bindK h1 (fun v_ h2 h1 => ?_)
       refine XC.anyRun [] [] mixed (by kernel_rfl) (by kernel_rfl) (by kernel_rfl) ?_
       refine RunA.rd rfl rfl rfl (OpOK.of_ro (RO.move rfl)) rfl ?_
       refine RunA.case (c := s1.1) rfl rfl rfl (OpOK.of_ro (RO.move rfl)) rfl (fun c12 => ?_) (fun c12 => ?_)
       ·
        replace h2 := condT c12 h2
        refine RunA.rd rfl rfl rfl (OpOK.of_ro (RO.loadOwnAgg ag_24 rfl rfl rfl rfl)) rfl <| RunA.rd rfl rfl rfl (OpOK.of_ro (RO.move rfl)) rfl ?_
        refine bindK h2 (fun x13 hx13 h2 => ?_)
        refine RunA.rd rfl rfl rfl (OpOK.callFun (m28_ok a0 ([(w64 (500 * (Int.tmod s1.2 2))), (w64 (500 * (Int.tmod (w64 (Int.tdiv s1.2 2)) 2))), (w64 (500 * (w64 (Int.tdiv s1.2 4))))]) x13 hx13) rfl (.cons (.agg (.cons (.d _) (.cons (.d _) .nil))) (.cons (.one (.d _)) .nil))) rfl <| RunA.rd rfl rfl rfl (OpOK.of_ro (RO.loadOwnAgg ag_24 rfl rfl rfl rfl)) rfl <| RunA.rd rfl rfl rfl (OpOK.of_ro (RO.move rfl)) rfl ?_
        refine bindK h2 (fun x14 hx14 h2 => ?_)
        refine RunA.rd rfl rfl rfl (OpOK.callFun (m28_ok a1 ([(w64 (500 * (Int.tmod s1.2 2))), (w64 (500 * (Int.tmod (w64 (Int.tdiv s1.2 2)) 2))), (w64 (500 * (w64 (Int.tdiv s1.2 4))))]) x14 hx14) rfl (.cons (.agg (.cons (.d _) (.cons (.d _) .nil))) (.cons (.one (.d _)) .nil))) rfl <| RunA.rd rfl rfl rfl (OpOK.of_ro (RO.binInt rfl rfl rfl)) rfl <| RunA.rd rfl rfl rfl (OpOK.of_ro (RO.pickT rfl rfl)) rfl <| RunA.rd rfl rfl rfl (OpOK.of_ro (RO.assign rfl)) rfl ?_
        refine RunA.nil ⟨?ex, _, _, rfl, ?_⟩
        case ex => exact trivial
        have e_ := Option.some.inj h2
        subst e_
        exact XQ.joinR (decide (x13 ≤ x14)) (stle (tR rfl (tR rfl (tR rfl (tR rfl tZ)))) (hR rfl (hR rfl hZ)) kZ rfl (Nat.zero_le _) rfl rfl rfl (bB rfl rfl (bB rfl rfl bZ)) rfl rfl) h1
       ·
        replace h2 := condF c12 h2
        refine RunA.no rfl rfl rfl rfl <| RunA.no rfl rfl rfl rfl <| RunA.no rfl rfl rfl rfl <| RunA.no rfl rfl rfl rfl <| RunA.no rfl rfl rfl rfl <| RunA.no rfl rfl rfl rfl <| RunA.no rfl rfl rfl rfl <| RunA.rd rfl rfl rfl (OpOK.of_ro (RO.pickF rfl rfl)) rfl <| RunA.rd rfl rfl rfl (OpOK.of_ro (RO.assign rfl)) rfl ?_
        refine RunA.nil ⟨?ex, _, _, rfl, ?_⟩
        case ex => exact trivial
        have e_ := Option.some.inj h2
        subst e_
        exact XQ.joinR false (stle (tR rfl (tR rfl (tR rfl (tR rfl tZ)))) (hR rfl (hR rfl hZ)) kZ rfl (Nat.zero_le _) rfl rfl rfl (bB rfl rfl (bB rfl rfl bZ)) rfl rfl) h1
      ·
       intro v11 h1
       refine XQ.inBlock <| XQ.seq <| XC.region <| rR rfl rfl rfl (RO.binInt rfl rfl rfl) <| rM rfl rfl rfl <| XL.nil ?_
       have e_ := Option.some.inj h1
       subst e_
       refine XQ.nextM (v11, (w64 (s1.2 + 1))) (stle (tR rfl (tR rfl (tR rfl (tR rfl tZ)))) (hR rfl (hR rfl hZ)) kZ rfl (Nat.zero_le _) rfl rfl rfl (bB rfl rfl (bB rfl rfl bZ)) rfl rfl) ho1
     ·
      replace h1 := condF c10 h1
      refine XC.exit <| XQ.thenE <| XQ.thenE ?_
      have e_ := Option.some.inj h1
      subst e_
      have e_ : _ = _ := ho1
      subst e_
      exact XQ.joinX s1.1 (stle (tR rfl (tR rfl (tR rfl tZ))) (hR rfl (hR rfl hZ)) kZ rfl (Nat.zero_le _) rfl rfl rfl (bB rfl rfl (bB rfl rfl bZ)) rfl rfl) h0
    ·
     intro o8 h0
     refine XQ.blockX <| XQ.seq <| XC.seq ?_
     refine XC.joinR (fun (v15 : Bool) => ⟨[(4, .v (.one (dB v15)))], [(0, .cells 24 (cE a0)), (1, .cells 24 (cE a1))], [], 2, 59, []⟩) (fun (v15 : Bool) => (some v15) = some r) ?_ ?_
     ·
      refine bindK h0 (fun v_ h1 h0 => ?_)
      refine XC.region <| rR rfl rfl rfl (RO.loadOwnAgg ag_24 rfl rfl rfl rfl) <| rR rfl rfl rfl (RO.loadOwnAgg ag_24 rfl rfl rfl rfl) ?_
      refine guardK h1 (fun g16 h1 => ?_)
      refine XL.put rfl rfl (lb rfl) (OpOK.callFun (leq_fun a0 a1 (Nat.le_of_ble_eq_true (cond_left g16)) (Nat.le_of_ble_eq_true (cond_right g16))) rfl (.cons (.agg (.cons (.d _) (.cons (.d _) .nil))) (.cons (.agg (.cons (.d _) (.cons (.d _) .nil))) .nil))) ?_
      refine rM rfl rfl rfl <| rR rfl rfl rfl (RO.eqBool ib_4 rfl rfl) <| rM rfl rfl rfl ?_
      refine XL.case (d := 56) (c := ((leqB a0 a1) == o8)) rfl (fun c17 => ?_) (fun c17 => ?_)
      ·
       replace h1 := condT c17 h1
       refine XL.put rfl rfl (lb rfl) (OpOK.callFun (awake_fun) rfl .nil) <| rR rfl rfl rfl (RO.pickT rfl rfl) <| rA rfl rfl rfl <| XL.nil ?_
       have e_ := Option.some.inj h1
       subst e_
       exact XQ.joinR true (stle (tR rfl tZ) (hR rfl (hR rfl hZ)) kZ rfl (Nat.zero_le _) rfl rfl rfl (bB rfl rfl (bB rfl rfl bZ)) rfl rfl) h0
      ·
       replace h1 := condF c17 h1
       refine XL.no rfl rfl <| rR rfl rfl rfl (RO.pickF rfl rfl) <| rA rfl rfl rfl <| XL.nil ?_
       have e_ := Option.some.inj h1
       subst e_
       exact XQ.joinR false (stle (tR rfl tZ) (hR rfl (hR rfl hZ)) kZ rfl (Nat.zero_le _) rfl rfl rfl (bB rfl rfl (bB rfl rfl bZ)) rfl rfl) h0
     ·
      intro v15 h0
      refine XQ.seq <| XC.ret ?_
      have e_ := Option.some.inj h0
      subst e_
      exact XQ.retF (fun _ _ h => h) rfl (RAs.tmp rfl .nil) (.cons (.one (.d _)) .nil)
end

section
open Go.RowKit
set_option linter.unusedSimpArgs false
set_option linter.unusedVariables false

def inR (L : Lvl) (n : Nat) : Bool := L.vs.all fun x => decide (0 ≤ x.1) && decide (x.1 < n)
def valF (ps : List Int) (s : Int) (x : LV) : Int := max s (ps.getD x.1.toNat 0 + x.2)
/-- the value of a level for values of its parameters -/
def valS (L : Lvl) (ps : List Int) : Int := L.vs.foldl (valF ps) L.c
theorem valF_le {ps : List Int} {m : Int} : ∀ (l : List LV) (c : Int), l.foldl (valF ps) c ≤ m ↔ c ≤ m ∧ ∀ x ∈ l, ps.getD x.1.toNat 0 + x.2 ≤ m
  | [], c => by simp
  | x :: l, c => by
    rw [List.foldl_cons, valF_le l]
    have : valF ps c x ≤ m ↔ c ≤ m ∧ ps.getD x.1.toNat 0 + x.2 ≤ m := by unfold valF; omega
    rw [this]
    simp [and_assoc]
theorem valS_le {L : Lvl} {ps : List Int} {m : Int} : valS L ps ≤ m ↔ L.c ≤ m ∧ ∀ x ∈ L.vs, ps.getD x.1.toNat 0 + x.2 ≤ m := valF_le _ _

def valG (ps : List Int) (s : Int) (x : LV) : (Int ⊕ Int) ⊕ Int := if x.1 < 0 ∨ (ps.length : Int) ≤ x.1 then .inl (.inr (-1)) else .inr (valF ps s x)
theorem val_exit {ps : List Int} : ∀ (l : List LV) (c : Int), exitGo (valG ps) Sum.inl l c = if (l.all fun x => decide (0 ≤ x.1) && decide (x.1 < (ps.length : Nat))) then Sum.inl (l.foldl (valF ps) c) else .inr (-1)
  | [], c => rfl
  | x :: l, c => by
    unfold exitGo
    by_cases h : x.1 < 0 ∨ (ps.length : Int) ≤ x.1
    · have e : valG ps c x = .inl (.inr (-1)) := if_pos h
      rw [e]
      have e2 : (decide (0 ≤ x.1) && decide (x.1 < (ps.length : Nat))) = false := by
        rw [Bool.and_eq_false_iff, decide_eq_false_iff_not, decide_eq_false_iff_not]; omega
      rw [List.all_cons, e2, Bool.false_and]
      rfl
    · have e : valG ps c x = .inr (valF ps c x) := if_neg h
      rw [e]
      have e2 : (decide (0 ≤ x.1) && decide (x.1 < (ps.length : Nat))) = true := by
        rw [Bool.and_eq_true, decide_eq_true_eq, decide_eq_true_eq]; omega
      rw [List.all_cons, e2, Bool.true_and, List.foldl_cons]
      exact val_exit l _
theorem m28_eq {L : Lvl} {ps : List Int} (hl : L.vs.length ≤ 100000) (hps : ∀ p ∈ ps, 0 ≤ p ∧ p ≤ 1000000000) : m28 L ps = some (if validB L && inR L ps.length then valS L ps else -1) := by
  unfold m28
  rw [guard_t (ble_t hl)]
  cases hv : validB L with
  | false => rfl
  | true =>
    simp only [Bool.not_true, cond_false]
    have key := exit_loopG (step := m28_l0 L ps) (l := L.vs) (fun i (s : Int) => (s, i)) Sum.inl (valG ps) (fun _ _ => True) (by omega) (fun k x s hx _ => by
      have hk := (List.getElem?_eq_some_iff.1 hx).1
      have ho := valid_okVar hv hx
      have e : m28_l0 L ps (s, (k : Int)) = some (match valG ps s x with
          | .inl r => LO.done r
          | .inr s' => LO.next (s', w64 ((k : Int) + 1))) := by
        unfold m28_l0
        dsimp only
        rw [decide_eq_true (by omega : (k : Int) < L.vs.length), cond_true, idx_nat (Int.natCast_nonneg _) (by simpa using hx), Option.bind_some]
        by_cases h : x.1 < 0 ∨ (ps.length : Int) ≤ x.1
        · have e : valG ps s x = .inl (.inr (-1)) := if_pos h
          have e2 : cond (decide (x.1 < 0)) (some true) (some (decide ((ps.length : Int) ≤ x.1))) = some true := by
            by_cases h1 : x.1 < 0
            · rw [decide_eq_true h1]; rfl
            · rw [decide_eq_false h1, decide_eq_true (h.resolve_left h1)]; rfl
          rw [e, e2]; rfl
        · have e : valG ps s x = .inr (valF ps s x) := if_neg h
          have e2 : cond (decide (x.1 < 0)) (some true) (some (decide ((ps.length : Int) ≤ x.1))) = some false := by
            rw [decide_eq_false (fun h1 => h (.inl h1)), decide_eq_false (fun h1 => h (.inr h1))]; rfl
          obtain ⟨p, hp⟩ : ∃ p, ps[x.1.toNat]? = some p := ⟨_, List.getElem?_eq_getElem (by omega)⟩
          have hp2 := hps p (List.mem_of_getElem? hp)
          rw [e, e2, Option.bind_some, cond_false, idx_nat (by omega) hp, Option.bind_some, w64_id (n := p + x.2) (by omega) (by omega)]
          have e3 : valF ps s x = max s (p + x.2) := by unfold valF; rw [List.getD_eq_getElem?_getD, hp]; rfl
          rw [e3]
      cases hg : valG ps s x with
      | inl r => rw [hg] at e; exact e
      | inr c => rw [hg] at e; exact ⟨e, trivial⟩) (fun s _ => by unfold m28_l0; dsimp only; rw [decide_eq_false (by omega)]; rfl) L.c trivial
    have key' : loopN (m28_l0 L ps) FUEL (L.c, 0) = some (exitGo (valG ps) Sum.inl L.vs L.c) := key
    rw [key', val_exit, Option.bind_some, Bool.true_and]
    unfold inR
    cases (L.vs.all fun x => decide (0 ≤ x.1) && decide (x.1 < (ps.length : Nat))) <;> rfl

def prm (k : Nat) : List Int := [500 * ((k % 2 : Nat) : Int), 500 * ((k / 2 % 2 : Nat) : Int), 500 * ((k / 4 : Nat) : Int)]
theorem prm_eq : ∀ k : Nat, k < 8 → [(w64 (500 * (Int.tmod (k : Int) 2))), (w64 (500 * (Int.tmod (w64 (Int.tdiv (k : Int) 2)) 2))), (w64 (500 * (w64 (Int.tdiv (k : Int) 4))))] = prm k := by decide
theorem prm_le (k : Nat) (hk : k < 8) : ∀ p ∈ prm k, 0 ≤ p ∧ p ≤ 1000000000 := by
  intro p hp
  unfold prm at hp
  simp only [List.mem_cons, List.not_mem_nil, or_false] at hp
  rcases hp with rfl | rfl | rfl <;> omega

theorem below_iff {A B : Lvl} (hA : validB A = true) (hB : validB B = true) (iA : inR A 3 = true) (iB : inR B 3 = true) : leqB A B = (List.range 8).all fun k => decide (valS A (prm k) ≤ valS B (prm k)) := by
  rw [Bool.eq_iff_iff, leqB_iff]
  simp only [List.all_eq_true, List.mem_range, decide_eq_true_eq]
  have rA : ∀ x ∈ A.vs, 0 ≤ x.1 ∧ x.1 < 3 := fun x hx => by have := List.all_eq_true.1 iA x hx; simpa using this
  have rB : ∀ x ∈ B.vs, 0 ≤ x.1 ∧ x.1 < 3 := fun x hx => by have := List.all_eq_true.1 iB x hx; simpa using this
  have pn : ∀ k, k < 8 → ∀ i : Int, 0 ≤ (prm k).getD i.toNat 0 := fun k hk i => by
    rw [List.getD_eq_getElem?_getD]
    cases h : (prm k)[i.toNat]? with
    | none => exact Int.le_refl _
    | some p => exact (prm_le k hk p (List.mem_of_getElem? h)).1
  constructor
  · rintro ⟨-, -, h1, h2⟩ k hk
    have hc : topL B ≤ valS B (prm k) := by
      have h := valS_le (L := B) (ps := prm k).1 (Int.le_refl _)
      exact topL_le.2 ⟨h.1, fun x hx => by have := h.2 x hx; have := pn k hk x.1; omega⟩
    refine valS_le.2 ⟨by omega, fun x hx => ?_⟩
    obtain ⟨y, hy, e, h3⟩ := h2 x hx
    have h := (valS_le (L := B) (ps := prm k).1 (Int.le_refl _)).2 y hy
    rw [e] at h
    omega
  · intro h
    refine ⟨hA, hB, ?_, fun x hx => ?_⟩
    · have h0 := h 0 (by decide)
      have hz : ∀ i : Int, (prm 0).getD i.toNat 0 = 0 := fun i => by
        match i.toNat with
        | 0 => rfl
        | 1 => rfl
        | 2 => rfl
        | n + 3 => rfl
      have h1 := (valS_le (L := A) (ps := prm 0).1 (Int.le_refl _)).1
      have h2 : valS B (prm 0) ≤ topL B := valS_le.2 ⟨top_ge _ _, fun x hx => by rw [hz]; have := le_topOf (c := B.c) hx; unfold topL; omega⟩
      omega
    · have hr := rA x hx
      have hox := okV_valid hA hx
      -- the parameter of x is 500, the others are 0
      have pick : ∃ k, k < 8 ∧ (prm k).getD x.1.toNat 0 = 500 ∧ ∀ j : Int, 0 ≤ j → j < 3 → j ≠ x.1 → (prm k).getD j.toNat 0 = 0 := by
        have h3 : x.1 = 0 ∨ x.1 = 1 ∨ x.1 = 2 := by omega
        have j3 : ∀ j : Int, 0 ≤ j → j < 3 → j = 0 ∨ j = 1 ∨ j = 2 := fun j h1 h2 => by omega
        rcases h3 with e | e | e <;> rw [e]
        · exact ⟨1, by decide, by decide, fun j h1 h2 h3 => by rcases j3 j h1 h2 with rfl | rfl | rfl <;> first | exact absurd rfl h3 | decide⟩
        · exact ⟨2, by decide, by decide, fun j h1 h2 h3 => by rcases j3 j h1 h2 with rfl | rfl | rfl <;> first | exact absurd rfl h3 | decide⟩
        · exact ⟨4, by decide, by decide, fun j h1 h2 h3 => by rcases j3 j h1 h2 with rfl | rfl | rfl <;> first | exact absurd rfl h3 | decide⟩
      obtain ⟨k, hk, e1, e2⟩ := pick
      have h1 := (valS_le (L := A) (ps := prm k).1 (Int.le_refl _)).2 x hx
      rw [e1] at h1
      have h2 := h k hk
      refine Classical.byContradiction fun hn => ?_
      have h3 : valS B (prm k) ≤ 499 + x.2 := valS_le.2 ⟨by have := (valid_c hB).2; have := hox.2.2.1; omega, fun y hy => by
        have ho := okV_valid hB hy
        have := rB y hy
        by_cases hxy : y.1 = x.1
        · rw [hxy, e1]
          have : ¬ x.2 ≤ y.2 := fun h4 => hn ⟨y, hy, hxy, h4⟩
          omega
        · rw [e2 y.1 this.1 this.2 hxy]
          have := ho.2.2.2; have := hox.2.2.1
          omega⟩
      omega

theorem m6_eq (a0 a1 : Lvl) : m6 a0 a1 = some true := by
  unfold m6
  rw [m13_eq (by simp), Option.bind_some]
  cases hf : few12 [a0, a1] with
  | false => rfl
  | true =>
    have h0 := few_len hf (x := a0) (by simp)
    have h1 := few_len hf (x := a1) (by simp)
    have hz : ∀ p ∈ ([0, 0, 0] : List Int), 0 ≤ p ∧ p ≤ 1000000000 := by decide
    simp only [Bool.not_true, cond_false]
    rw [m28_eq (by omega) hz, m28_eq (by omega) hz, Option.bind_some, Option.bind_some]
    have l3 : ([0, 0, 0] : List Int).length = 3 := rfl
    rw [l3]
    cases c0 : validB a0 && inR a0 3 with
    | false => rfl
    | true =>
      rw [Bool.and_eq_true] at c0
      have p0 : 0 ≤ valS a0 [0, 0, 0] := by have := (valS_le (L := a0) (ps := [0, 0, 0])).1 (Int.le_refl _); have := (valid_c c0.1).1; omega
      rw [if_pos rfl, decide_eq_false (by omega), cond_false]
      cases c1 : validB a1 && inR a1 3 with
      | false => rfl
      | true =>
        rw [Bool.and_eq_true] at c1
        have p1 : 0 ≤ valS a1 [0, 0, 0] := by have := (valS_le (L := a1) (ps := [0, 0, 0])).1 (Int.le_refl _); have := (valid_c c1.1).1; omega
        rw [if_pos rfl, decide_eq_false (by omega), Option.bind_some, cond_false]
        have key := fold_loopG (step := m6_l0 a0 a1) (l := List.range 8) (fun i (s : Bool) => (s, i)) (fun s => s) (fun s k => s && decide (valS a0 (prm k) ≤ valS a1 (prm k))) (fun _ _ => True) (by simp) (fun k x s hx _ => by
          have hk : k < 8 := by have := (List.getElem?_eq_some_iff.1 hx).1; simpa using this
          have ex : x = k := by rw [List.getElem?_range hk] at hx; cases hx; rfl
          subst ex
          refine ⟨?_, trivial⟩
          unfold m6_l0
          dsimp only
          rw [decide_eq_true (by omega : (x : Int) < 8), cond_true, prm_eq x hk, m28_eq (by omega) (prm_le x hk), m28_eq (by omega) (prm_le x hk)]
          have l3' : (prm x).length = 3 := rfl
          rw [l3', c0.1, c0.2, c1.1, c1.2]
          simp only [Bool.and_self, if_true, Option.bind_some]
          cases s <;> rfl) (fun s _ => by unfold m6_l0; dsimp only; rw [List.length_range, decide_eq_false (by omega), cond_false]) true trivial
        have fold_all : ∀ (l : List Nat) (p : Nat → Bool) (b : Bool), l.foldl (fun s k => s && p k) b = (b && l.all p) := by
          intro l p
          induction l with
          | nil => intro b; simp
          | cons x l ih => intro b; rw [List.foldl_cons, ih, List.all_cons, Bool.and_assoc]
        rw [fold_all, Bool.true_and, ← below_iff c0.1 c1.1 c0.2 c1.2] at key
        have key' : loopN (m6_l0 a0 a1) FUEL (true, 0) = some (leqB a0 a1) := key
        rw [key', Option.bind_some, guard_t (g2 (by omega) (by omega))]
        simp
end

end Go.Proofs.YtcapifnaceegmaaGreatDoor
