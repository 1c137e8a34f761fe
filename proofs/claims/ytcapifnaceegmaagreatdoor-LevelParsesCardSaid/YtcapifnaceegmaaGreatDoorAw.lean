/- awake: by the evaluator; slices.Sorted(maps.Keys(..)) and what is called of strings and strconv are known calls. -/
import Derived.Test.YtcapifnaceegmaaGreatDoorEvT
import Derived.Test.YtcapifnaceegmaaGreatDoorKy
import Derived.Test.YtcapifnaceegmaaGreatDoorKs
namespace Go.Proofs.YtcapifnaceegmaaGreatDoor
open Go.RowKit
set_option linter.unusedSimpArgs false
set_option linter.unusedVariables false
set_option linter.unusedSectionVars false

theorem CallM.of_fun {P : Program} {f : FuncId} {args : List AV} {res : TV} (h : Fun P f args res) (hd : ∀ (V : Vu) (w : World) (vs : Array Value), argsRel V w args vs → argsRel (Vu.of V.S) w args vs) (m : Mem) : CallM P f args m res m := by
  refine ⟨h.1, fun E V w vs hP H hn hargs => ?_⟩
  refine Calls.mono (h.2 V.S w vs H.sz (hd V w vs hargs)) ?_
  rintro e w' ⟨v, S', rfl, hx, hS, hS', hv⟩
  have hg : V.Grow { V with S := S' } w w' := ⟨Nat.le_refl _, fun _ _ => rfl, fun _ _ => rfl, fun _ _ _ _ => rfl, hS, fun b o h => (hS' b o h).1, fun b o h => (hS' b o h).2⟩
  exact ⟨v, { V with S := S' }, rfl, H.later hx hg, hn, H.le hx hg, hv.mono (of_le (V := { V with S := S' }))⟩
theorem condS {b : Bool} {α : Type} {x : Option α} {r : α} (h : cond b x none = some r) : b = true ∧ x = some r := by
  cases b with
  | false => cases h
  | true => exact ⟨rfl, h⟩
/-- arguments that are data -/
theorem data_args {cs : List C} : ∀ (V : Vu) (w : World) (vs : Array Value), argsRel V w (cs.map fun c => .one (.d c)) vs → argsRel (Vu.of V.S) w (cs.map fun c => .one (.d c)) vs := fun V w vs hv => ⟨hv.1, fun i y hy => by
  obtain ⟨u, h1, h2⟩ := hv.2 i y hy
  refine ⟨u, h1, ?_⟩
  rw [List.getElem?_map] at hy
  cases hc : cs[i]? with
  | none => rw [hc] at hy; cases hy
  | some c => rw [hc] at hy; cases hy; exact h2⟩

def bL (s : ByteArray) : List UInt8 := s.data.toList
theorem sB_bL (s : ByteArray) : sB (bL s) = s := sB_of s

def k63 (args : List AV) (m : Mem) : Option (TV × Mem) := match args with
  | [.one (.d (.v (.int .i64 n)))] => cond (cond (decide (0 ≤ n)) (decide (n < 100)) false) (some (TS (dig2 n), m)) none
  | _ => none
theorem k63_ok {args : List AV} {m m' : Mem} {res : TV} (h : k63 args m = some (res, m')) : CallM Tryz.prog 63 args m res m' := by
  unfold k63 at h
  split at h
  · obtain ⟨h1, h2⟩ := condS h
    cases h2
    exact CallM.of_fun (itoa_fun _ h1) (data_args (cs := [_])) m
  · cases h
def k79 (args : List AV) (m : Mem) : Option (TV × Mem) := match args with
  | [.one (.d (.v (.string s))), .one (.d (.v (.string c)))] => cond (bL c == [32]) (some (TS ((bL s).dropWhile (· == 32)), m)) none
  | _ => none
theorem k79_ok {args : List AV} {m m' : Mem} {res : TV} (h : k79 args m = some (res, m')) : CallM Tryz.prog 79 args m res m' := by
  unfold k79 at h
  split at h
  · rename_i s c
    obtain ⟨h1, h2⟩ := condS h
    cases h2
    have e := trim_fun (bL s)
    have h3 : bL c = [32] := by simpa using h1
    rw [← h3] at e
    unfold dS8 at e
    rw [sB_bL, sB_bL] at e
    exact CallM.of_fun e (data_args (cs := [_, _])) m
  · cases h
def k80 (args : List AV) (m : Mem) : Option (TV × Mem) := match args with
  | [.one (.d (.v (.string s))), .one (.d (.v (.string p)))] => some (.tup [.one (dS8 (Lib.trimPrefix (bL s) (bL p))), .one (.d (.v (.bool (Lib.hasPrefix (bL s) (bL p)))))], m)
  | _ => none
theorem k80_ok {args : List AV} {m m' : Mem} {res : TV} (h : k80 args m = some (res, m')) : CallM Tryz.prog 80 args m res m' := by
  unfold k80 at h
  split at h
  · rename_i s p
    have h2 := Option.some.inj h
    have e1 := congrArg Prod.fst h2
    have e2 := congrArg Prod.snd h2
    dsimp only at e1 e2
    subst e1; subst e2
    have e := cut_fun (bL s) (bL p)
    have a1 : dS8 (bL s) = .d (.v (.string s)) := by unfold dS8; rw [sB_bL]
    have a2 : dS8 (bL p) = .d (.v (.string p)) := by unfold dS8; rw [sB_bL]
    rw [a1, a2] at e
    exact CallM.of_fun e (data_args (cs := [_, _])) m
  · cases h
def k99 (args : List AV) (m : Mem) : Option (TV × Mem) := match args with
  | [.one (.d (.v (.string s)))] => cond (cond (Nat.ble (bL s).length 18) (Lib.atoi (bL s)).isSome false) (some (.tup [.one (.d (.v (.int .i64 (atoiL (bL s))))), .one (.d (.v .nilIface))], m)) none
  | _ => none
theorem k99_ok {args : List AV} {m m' : Mem} {res : TV} (h : k99 args m = some (res, m')) : CallM Tryz.prog 99 args m res m' := by
  unfold k99 at h
  split at h
  · rename_i s
    obtain ⟨h1, h2⟩ := condS h
    cases h2
    have e := atoi_fun (bL s) h1
    have a1 : dS8 (bL s) = .d (.v (.string s)) := by unfold dS8; rw [sB_bL]
    rw [a1] at e
    exact CallM.of_fun e (data_args (cs := [_])) m
  · cases h
def decS : List (List C) → Option (List (List UInt8))
  | [] => some []
  | [.v (.string s)] :: l => match decS l with
    | some r => some (bL s :: r)
    | none => none
  | _ => none
theorem decS_ok : ∀ {l : List (List C)} {r : List (List UInt8)}, decS l = some r → r.map strL = l
  | [], r, h => by cases h; rfl
  | x :: l, r, h => by
    unfold decS at h
    split at h
    · cases ‹_ :: _ = []›
    · rename_i s l' heq
      cases heq
      split at h
      · rename_i r' hr
        cases h
        rw [List.map_cons, decS_ok hr]
        unfold strL
        rw [sB_bL]
      · cases h
    · cases h
def k66 (args : List AV) (m : Mem) : Option (TV × Mem) := match args with
  | [.one (.d (.sl n es)), .one (.d (.v (.string p)))] => cond (Nat.beq n 1) (match decS es with
    | some l => cond (cond (Nat.ble l.length 1000000) (Nat.ble (Lib.join l (bL p)).length 1000000000) false) (some (TS (Lib.join l (bL p)), m)) none
    | none => none) none
  | _ => none
theorem k66_ok {args : List AV} {m m' : Mem} {res : TV} (h : k66 args m = some (res, m')) : CallM Tryz.prog 66 args m res m' := by
  unfold k66 at h
  split at h
  · rename_i n es p
    obtain ⟨h1, h2⟩ := condS h
    obtain rfl := Nat.eq_of_beq_eq_true h1
    split at h2
    · rename_i l hl
      obtain ⟨h3, h4⟩ := condS h2
      cases h4
      have e := join_str_fun l (bL p) h3
      have a1 : dS8 (bL p) = .d (.v (.string p)) := by unfold dS8; rw [sB_bL]
      rw [a1, decS_ok hl] at e
      exact CallM.of_fun e (data_args (cs := [_, _])) m
    · cases h2
  · cases h
def decM : List (Value × AV × Nat) → Option (List (Int × Int × Nat))
  | [] => some []
  | (.int .i64 k, .one (.d (.v (.int .i64 v))), n) :: l => match decM l with
    | some r => some ((k, v, n) :: r)
    | none => none
  | _ => none
theorem decM_ok : ∀ {l : List (Value × AV × Nat)} {r : List (Int × Int × Nat)}, decM l = some r → imE r = l
  | [], r, h => by cases h; rfl
  | x :: l, r, h => by
    unfold decM at h
    split at h
    · cases ‹_ :: _ = []›
    · rename_i k v n l' heq
      cases heq
      split at h
      · rename_i r' hr
        cases h
        have := decM_ok hr
        unfold imE at this ⊢
        rw [List.map_cons, this]
      · cases h
    · cases h
def k82 (args : List AV) (m : Mem) : Option (TV × Mem) := match args with
  | [.one (.fn g [(b, o)])] => cond (Nat.beq g 102) (cond (Nat.beq o 0) (match lk m.hp b with
    | some (.cells _ [.mp i]) => match lk m.hp i with
      | some (.mp es c) => match decM es with
        | some l => cond (imOk (l, c)) (some (.v (.one (.d (.sl 1 (Enc.encL (imKeys (l, c)))))), m)) none
        | none => none
      | _ => none
    | _ => none) none) none
  | _ => none
theorem k82_ok {args : List AV} {m m' : Mem} {res : TV} (h : k82 args m = some (res, m')) : CallM Tryz.prog 82 args m res m' := by
  unfold k82 at h
  split at h
  · rename_i g b o
    obtain ⟨h1, h2⟩ := condS h
    obtain ⟨h3, h4⟩ := condS h2
    obtain rfl := Nat.eq_of_beq_eq_true h1
    obtain rfl := Nat.eq_of_beq_eq_true h3
    split at h4
    · rename_i T i hb
      split at h4
      · rename_i es c hi
        split at h4
        · rename_i l hl
          obtain ⟨h5, h6⟩ := condS h4
          cases h6
          rw [← decM_ok hl] at hi
          exact sortedKeys_call (M := (l, c)) hb hi h5
        · cases h4
      · cases h4
    · cases h4
  · cases h

def KE : Known := fun f args m => cond (Nat.beq f 63) (k63 args m) (cond (Nat.beq f 79) (k79 args m) (cond (Nat.beq f 80) (k80 args m) (cond (Nat.beq f 99) (k99 args m) (cond (Nat.beq f 66) (k66 args m) (cond (Nat.beq f 82) (k82 args m) none)))))
theorem KE_step {f g : Nat} {P : Program} {args : List AV} {m m' : Mem} {res : TV} {x y : Option (TV × Mem)} (h : cond (Nat.beq f g) x y = some (res, m')) (h1 : x = some (res, m') → CallM P g args m res m') (h2 : y = some (res, m') → CallM P f args m res m') : CallM P f args m res m' := by
  cases hb : Nat.beq f g with
  | true =>
    rw [hb] at h
    obtain rfl := Nat.eq_of_beq_eq_true hb
    exact h1 h
  | false => rw [hb] at h; exact h2 h
theorem KE_ok : KE.OK Tryz.prog := by
  intro f args m res m' h
  unfold KE at h
  refine KE_step h k63_ok fun h => KE_step h k79_ok fun h => KE_step h k80_ok fun h => KE_step h k99_ok fun h => KE_step h k66_ok fun h => KE_step h k82_ok fun h => by cases h

def isT : Option (TV × Mem) → Bool
  | some (.v (.one (.d (.v (.bool b)))), _) => b
  | _ => false
theorem isT_ok {o : Option (TV × Mem)} (h : isT o = true) : ∃ m, o = some (TB true, m) := by
  unfold isT at h
  split at h
  · rename_i b m; subst h; exact ⟨m, rfl⟩
  · cases h
theorem awake_run : isT ((recN cfg KE 60).call 14 [] mem0) = true := by kernel_rfl
theorem awake_fun : Fun Tryz.prog 14 [] (TB true) := by
  obtain ⟨m, hm⟩ := isT_ok awake_run
  exact Fun.of_callM ((recN_ok cfg_ok KE_ok 60).call hm) rfl
end Go.Proofs.YtcapifnaceegmaaGreatDoor
