/- universe.Entails at the two examples of awake: by the evaluator; slices.Clone and possible are known calls. -/
import Derived.Test.YtkimijmiphkddaaEvT
import Derived.Test.YtkimijmiphkddaaCl
import Derived.Test.YtkimijmiphkddaaMt
namespace Go.Proofs.Ytkimijmiphkddaa
open Go.RowKit
set_option linter.unusedSimpArgs false
set_option linter.unusedVariables false
set_option linter.unusedSectionVars false

theorem CallM.of_fun {P : Program} {f : FuncId} {args : List AV} {res : TV} (h : Fun P f args res) (hd : ∀ (V : Vu) (w : World) (vs : Array Value), argsRel V w args vs → argsRel (Vu.of V.S) w args vs) (m : Mem) : CallM P f args m res m := by
  refine ⟨h.1, fun E V w vs hP H hn hargs => ?_⟩
  refine Calls.mono (h.2 V.S w vs H.sz (hd V w vs hargs)) ?_
  rintro e w' ⟨v, S', rfl, hx, hS, hS', hv⟩
  have hg : V.Grow { V with S := S' } w w' := ⟨Nat.le_refl _, fun _ _ => rfl, fun _ _ => rfl, fun _ _ _ _ => rfl, hS, fun b o h => (hS' b o h).1, fun b o h => (hS' b o h).2⟩
  exact ⟨v, { V with S := S' }, rfl, H.later hx hg, hn, H.le hx hg, hv.mono (of_le (V := { V with S := S' }))⟩

def decL {α : Type} (d : List C → Option α) : List (List C) → Option (List α)
  | [] => some []
  | x :: l => match d x, decL d l with
    | some y, some r => some (y :: r)
    | _, _ => none
def decLV : List C → Option LV
  | [.v (.int .i64 a), .v (.int .i64 b)] => some (a, b)
  | _ => none
def decB : List C → Option Bnd
  | [.v (.int .i64 a), .sl n vs, .v (.int .i64 b), .sl k us] => cond (Nat.beq n 2) (cond (Nat.beq k 2) (match decL decLV vs, decL decLV us with
    | some x, some y => some ⟨⟨a, x⟩, ⟨b, y⟩⟩
    | _, _ => none) none) none
  | _ => none
theorem decLV_ok {x : List C} {v : LV} (h : decLV x = some v) : lvC v = x := by
  unfold decLV at h
  split at h
  · cases h; rfl
  · cases h
theorem decL_ok {α : Type} {d : List C → Option α} {e : α → List C} (hd : ∀ x v, d x = some v → e v = x) : ∀ {l : List (List C)} {r : List α}, decL d l = some r → r.map e = l
  | [], r, h => by cases h; rfl
  | x :: l, r, h => by
    simp only [decL] at h
    split at h
    · rename_i y r' hy hr
      cases h
      rw [List.map_cons, hd x y hy, decL_ok hd hr]
    · cases h
theorem condS {b : Bool} {α : Type} {x : Option α} {r : α} (h : cond b x none = some r) : b = true ∧ x = some r := by
  cases b with
  | false => cases h
  | true => exact ⟨rfl, h⟩
theorem decB_ok {x : List C} {v : Bnd} (h : decB x = some v) : bndC v = x := by
  unfold decB at h
  split at h
  · obtain ⟨h1, h⟩ := condS h
    obtain ⟨h2, h⟩ := condS h
    obtain rfl := Nat.eq_of_beq_eq_true h1
    obtain rfl := Nat.eq_of_beq_eq_true h2
    split at h
    · rename_i x y hx hy
      cases h
      have e1 := decL_ok (e := lvC) (fun _ _ => decLV_ok) hx
      have e2 := decL_ok (e := lvC) (fun _ _ => decLV_ok) hy
      rw [← e1, ← e2]; rfl
    · cases h
  · cases h

def k34 (args : List AV) (m : Mem) : Option (TV × Mem) := match args with
  | [.one (.d (.sl n es))] => cond (Nat.beq n 4) (match decL decB es with
    | some l => cond (Nat.ble (([] : List Bnd).length + l.length) 1000000000) (some (resOf [.one (.app m.nx 4 (Enc.encL l))], ⟨m.hp, (m.nx, some ⟨41, 4, (Enc.encL l).length⟩) :: m.tk, m.nx + 1⟩)) none
    | none => none) none
  | _ => none
theorem k34_ok {args : List AV} {m m' : Mem} {res : TV} (h : k34 args m = some (res, m')) : CallM Try.prog 34 args m res m' := by
  unfold k34 at h
  split at h
  · rename_i n es
    obtain ⟨h1, h⟩ := condS h
    obtain rfl := Nat.eq_of_beq_eq_true h1
    split at h
    · rename_i l hl
      have h4 := condS (condS h).2
      have h5 := Option.some.inj h4.2
      have h2 := h4.1
      have e1 := congrArg Prod.fst h5
      have e2 := congrArg Prod.snd h5
      dsimp only at e1 e2
      subst e1
      subst e2
      have e : Enc.encL l = es := decL_ok (e := bndC) (fun _ _ => decB_ok) hl
      rw [← e]
      exact clone_call l h2 m
    · cases h
  · cases h

def decI : List CA → Option (List Int)
  | [] => some []
  | .d (.v (.int .i64 a)) :: l => match decI l with
    | some r => some (a :: r)
    | none => none
  | _ => none
theorem decI_ok : ∀ {l : List CA} {r : List Int}, decI l = some r → flatE r = l
  | [], r, h => by cases h; rfl
  | x :: l, r, h => by
    unfold decI at h
    split at h
    · cases ‹_ :: _ = []›
    · rename_i a l' heq
      cases heq
      split at h
      · rename_i r' hr
        cases h
        rw [flatE_cons, decI_ok hr]; rfl
      · cases h
    · cases h
def k42 (args : List AV) (m : Mem) : Option (TV × Mem) := match args with
  | [.agg xs] => match decI xs with
    | some l => match m42 l with
      | some b => some (resOf [.one (dB b)], m)
      | none => none
    | none => none
  | _ => none
theorem k42_ok {args : List AV} {m m' : Mem} {res : TV} (h : k42 args m = some (res, m')) : CallM Try.prog 42 args m res m' := by
  unfold k42 at h
  split at h
  · rename_i xs
    split at h
    · rename_i l hl
      split at h
      · rename_i b hb
        cases h
        rw [← decI_ok hl]
        refine CallM.of_fun (m42_ok l b hb) (fun V w vs hv => ⟨hv.1, fun i y hy => ?_⟩) m
        obtain ⟨u, h1, h2⟩ := hv.2 i y hy
        refine ⟨u, h1, ?_⟩
        cases i with
        | zero =>
          simp at hy; subst hy
          obtain ⟨us, h3, h4⟩ := h2
          exact ⟨us, h3, rels_datas (cs := (Enc.encL l).flatten) h4 rfl⟩
        | succ i => simp at hy
      · cases h
    · cases h
  · cases h

def KE : Known := fun f args m => cond (Nat.beq f 34) (k34 args m) (cond (Nat.beq f 42) (k42 args m) none)
theorem KE_ok : KE.OK Try.prog := by
  intro f args m res m' h
  unfold KE at h
  cases h1 : Nat.beq f 34 with
  | true =>
    rw [h1] at h
    obtain rfl := Nat.eq_of_beq_eq_true h1
    exact k34_ok h
  | false =>
    rw [h1] at h
    cases h2 : Nat.beq f 42 with
    | true =>
      rw [h2] at h
      obtain rfl := Nat.eq_of_beq_eq_true h2
      exact k42_ok h
    | false => rw [h2] at h; cases h

def isBI (b : Bool) (n : Int) : Option (TV × Mem) → Bool
  | some (.tup [.one (.d (.v (.bool b'))), .one (.d (.v (.int .i64 n')))], _) => cond (b == b') (n == n') false
  | _ => false
theorem isBI_ok {b : Bool} {n : Int} {o : Option (TV × Mem)} (h : isBI b n o = true) : ∃ m, o = some (.tup [.one (dB b), .one (dI n)], m) := by
  unfold isBI at h
  split at h
  · rename_i b' n' m
    have h1 := cond_left h
    rw [h1] at h
    have e1 : b = b' := by simpa using h1
    have e2 : n = n' := by simpa using h
    exact ⟨m, by rw [e1, e2]⟩
  · cases h

abbrev awFrom : List Bnd := [⟨⟨0, [(0, 1)]⟩, ⟨0, [(1, 0)]⟩⟩, ⟨⟨0, [(1, 0)]⟩, ⟨3, []⟩⟩]
abbrev awA : Bnd := ⟨⟨0, [(0, 0)]⟩, ⟨2, []⟩⟩
abbrev awB : Bnd := ⟨⟨0, [(0, 0)]⟩, ⟨1, []⟩⟩
theorem ent_run1 : isBI true 0 ((recN cfg KE 40).call 18 [.one (dS awFrom), .agg (cE awA)] mem0) = true := by kernel_rfl
theorem ent_run2 : isBI false 0 ((recN cfg KE 40).call 18 [.one (dS awFrom), .agg (cE awB)] mem0) = true := by kernel_rfl
theorem ent1 : Fun Try.prog 18 [.one (dS awFrom), .agg (cE awA)] (resOf [.one (dB true), .one (dI 0)]) := by
  obtain ⟨m, hm⟩ := isBI_ok ent_run1
  exact Fun.of_callM ((recN_ok cfg_ok KE_ok 40).call hm) rfl
theorem ent2 : Fun Try.prog 18 [.one (dS awFrom), .agg (cE awB)] (resOf [.one (dB false), .one (dI 0)]) := by
  obtain ⟨m, hm⟩ := isBI_ok ent_run2
  exact Fun.of_callM ((recN_ok cfg_ok KE_ok 40).call hm) rfl
end Go.Proofs.Ytkimijmiphkddaa
