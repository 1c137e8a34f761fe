/- A call in a part of memory, its names turned: the rest of memory stays as it is. Recursion, unrolled by a number. -/
import Derived.Test.YtcapifnaceegmaaGreatDoorOwn
namespace Go.Proofs.YtcapifnaceegmaaGreatDoor
open Go.RowKit
set_option linter.unusedSimpArgs false
set_option linter.unusedVariables false
set_option linter.unusedSectionVars false

theorem ownsRow_same {w w' : World} {b e s n : Nat} {v : Value} {xs : List Value} (h : w.ownsRow b e s v n xs) (hs : ∀ g, v.ownBlock = some g → w'.heap[g]? = w.heap[g]?) : w'.ownsRow b e s v n xs := by
  obtain ⟨h1, h2⟩ := h
  refine ⟨h1, h2.imp id ?_⟩
  rintro ⟨g, cap, cur, rfl, h3, h4, h5⟩
  exact ⟨g, cap, cur, rfl, h3, (hs g rfl).trans h4, h5⟩

/-- the blocks that a part of memory holds -/
def partM (V : Vu) (hp : List (Nat × HB)) (tk : List (Nat × Option Tok)) (k : Nat) : Prop :=
  (∃ i B, lk hp i = some B ∧ V.ι i = k) ∨ ∃ i T, lk tk i = some (some T) ∧ (V.κ i T.n).ownBlock = some k

theorem lk_app {α : Type} : ∀ (a b : List (Nat × α)) (i : Nat), lk (a ++ b) i = match lk a i with
    | some x => some x
    | none => lk b i
  | [], b, i => rfl
  | (k, x) :: a, b, i => by
    rw [List.cons_append, lk_cons, lk_cons]
    split
    · rfl
    · exact lk_app a b i
theorem lk_app_some {α : Type} {a b : List (Nat × α)} {i : Nat} {x : α} (h : lk (a ++ b) i = some x) : lk a i = some x ∨ lk b i = some x := by
  rw [lk_app] at h
  cases h1 : lk a i with
  | none => rw [h1] at h; exact .inr h
  | some y => rw [h1] at h; exact .inl h

theorem lk_memF {α : Type} : ∀ {a : List (Nat × α)} {i : Nat} {x : α}, lk a i = some x → (i, x) ∈ a
  | [], i, x, h => by cases h
  | (k, y) :: a, i, x, h => by
    rw [lk_cons] at h
    split at h
    · rename_i e; subst e; cases h; exact List.mem_cons_self
    · exact List.mem_cons_of_mem _ (lk_memF h)

/-! ### Names turned -/
def rho : List Nat → Nat → Nat → Nat
  | [], n, i => n + i
  | j :: _, _, 0 => j
  | _ :: r, n, i + 1 => rho r n i
theorem rho_lt : ∀ {rs : List Nat} {n i : Nat}, i < rs.length → ∃ j, rs[i]? = some j ∧ rho rs n i = j
  | [], n, i, h => by simp at h
  | j :: r, n, 0, h => ⟨j, rfl, rfl⟩
  | j :: r, n, i + 1, h => rho_lt (rs := r) (n := n) (i := i) (by simpa using h)
theorem rho_ge : ∀ {rs : List Nat} {n i : Nat}, rs.length ≤ i → rho rs n i = n + (i - rs.length)
  | [], n, i, h => rfl
  | j :: r, n, 0, h => by simp at h
  | j :: r, n, i + 1, h => by
    have h1 : r.length ≤ i := by simpa using h
    have h2 := rho_ge (rs := r) (n := n) (i := i) h1
    simp only [rho, List.length_cons]
    omega
theorem rho_mem {rs : List Nat} {n i : Nat} (h : i < rs.length) : rho rs n i ∈ rs := by
  obtain ⟨j, h1, h2⟩ := rho_lt (n := n) h
  rw [h2]; exact List.mem_of_getElem? h1
theorem nodup_get {α : Type} : ∀ {l : List α} {i j : Nat} {a : α}, l.Nodup → l[i]? = some a → l[j]? = some a → i = j
  | [], i, j, a, _, h, _ => by simp at h
  | x :: l, 0, 0, a, _, _, _ => rfl
  | x :: l, 0, j + 1, a, hn, h1, h2 => by
    simp at h1 h2
    subst h1
    exact absurd (List.mem_of_getElem? h2) (List.nodup_cons.1 hn).1
  | x :: l, i + 1, 0, a, hn, h1, h2 => by
    simp at h1 h2
    subst h2
    exact absurd (List.mem_of_getElem? h1) (List.nodup_cons.1 hn).1
  | x :: l, i + 1, j + 1, a, hn, h1, h2 => by
    simp at h1 h2
    rw [nodup_get (List.nodup_cons.1 hn).2 h1 h2]
theorem rho_inj {rs : List Nat} {n : Nat} (hnd : rs.Nodup) (hlt : ∀ j ∈ rs, j < n) {i j : Nat} (h : rho rs n i = rho rs n j) : i = j := by
  by_cases h1 : i < rs.length <;> by_cases h2 : j < rs.length
  · obtain ⟨a, h3, h4⟩ := rho_lt (n := n) h1
    obtain ⟨b, h5, h6⟩ := rho_lt (n := n) h2
    rw [h4, h6] at h
    subst h
    exact nodup_get hnd h3 h5
  · have := hlt _ (rho_mem (n := n) h1)
    rw [h, rho_ge (Nat.le_of_not_lt h2)] at this; omega
  · have := hlt _ (rho_mem (n := n) h2)
    rw [← h, rho_ge (Nat.le_of_not_lt h1)] at this; omega
  · rw [rho_ge (Nat.le_of_not_lt h1), rho_ge (Nat.le_of_not_lt h2)] at h; omega

def CA.ren (ρ : Nat → Nat) : CA → CA
  | .d c => .d c
  | .ptr i off => .ptr (ρ i) off
  | .pel e off => .pel e off
  | .fn f caps => .fn f (caps.map fun p => (ρ p.1, p.2))
  | .app i sz es => .app (ρ i) sz es
  | .osl i off len cap => .osl (ρ i) off len cap
  | .mp i => .mp (ρ i)
  | .yld i => .yld (ρ i)
  | .clo f caps => .clo f caps
  | .any => .any
def AV.ren (ρ : Nat → Nat) : AV → AV
  | .one x => .one (x.ren ρ)
  | .agg xs => .agg (xs.map (CA.ren ρ))
def TV.ren (ρ : Nat → Nat) : TV → TV
  | .v x => .v (x.ren ρ)
  | .tup xs => .tup (xs.map (AV.ren ρ))
  | .unk => .unk
def HB.ren (ρ : Nat → Nat) : HB → HB
  | .cells T xs => .cells T (xs.map (CA.ren ρ))
  | .obj o => .obj o
  | .loop s p tm nt ps assign body D => .loop s p (tm.map fun q => (q.1, q.2.ren ρ)) nt ps assign body (ρ D)
  | .mp es c => .mp (es.map fun e => (e.1, e.2.1.ren ρ, e.2.2)) c
def renHp (ρ : Nat → Nat) (l : List (Nat × HB)) : List (Nat × HB) := l.map fun p => (ρ p.1, p.2.ren ρ)
def renTk (ρ : Nat → Nat) (l : List (Nat × Option Tok)) : List (Nat × Option Tok) := l.map fun p => (ρ p.1, p.2)

theorem lk_map2 {α β : Type} (f : α → β) : ∀ (l : List (Nat × α)) (t : Nat), lk (l.map fun q => (q.1, f q.2)) t = (lk l t).map f
  | [], t => rfl
  | (k, x) :: l, t => by
    rw [List.map_cons, lk_cons, lk_cons]
    split
    · rfl
    · exact lk_map2 f l t
theorem lk_ren {α β : Type} {ρ : Nat → Nat} {f : α → β} (inj : ∀ i j, ρ i = ρ j → i = j) : ∀ (l : List (Nat × α)) (i : Nat), lk (l.map fun p => (ρ p.1, f p.2)) (ρ i) = (lk l i).map f
  | [], i => rfl
  | (k, x) :: l, i => by
    rw [List.map_cons, lk_cons, lk_cons]
    by_cases h : k = i
    · subst h; rw [if_pos rfl, if_pos rfl]; rfl
    · rw [if_neg h, if_neg (fun e => h (inj _ _ e))]; exact lk_ren inj l i
theorem lk_ren_inv {α β : Type} {ρ : Nat → Nat} {f : α → β} (inj : ∀ i j, ρ i = ρ j → i = j) {l : List (Nat × α)} {j : Nat} {y : β} (h : lk (l.map fun p => (ρ p.1, f p.2)) j = some y) : ∃ i x, ρ i = j ∧ lk l i = some x ∧ y = f x := by
  obtain ⟨p, h1, h2⟩ := List.mem_map.1 (lk_memF h)
  have h3 : ρ p.1 = j := (Prod.mk.inj h2).1
  subst h3
  rw [lk_ren inj] at h
  cases h4 : lk l p.1 with
  | none => rw [h4] at h; cases h
  | some x => rw [h4] at h; cases h; exact ⟨p.1, x, rfl, h4, rfl⟩

/-- the names of a part, seen from within -/
def pull (ρ : Nat → Nat) (V : Vu) (m : Nat) : Vu := ⟨m, fun i => V.ι (ρ i), fun i => V.κ (ρ i), fun i => V.cu (ρ i), V.S⟩
theorem CA.rel.pull {ρ : Nat → Nat} {V : Vu} {w : World} {m : Nat} {x : CA} {v : Value} (h : (x.ren ρ).rel V w v) (hb : x.below m) : x.rel (pull ρ V m) w v := by
  cases x with
  | ptr i off => exact ⟨hb, h.2⟩
  | fn f caps =>
    have := h.2
    rw [List.map_map] at this
    exact ⟨hb, this⟩
  | app i sz es => exact ⟨hb, h.2⟩
  | osl i off len cap => exact ⟨hb, h.2⟩
  | mp i => exact ⟨hb, h.2⟩
  | yld i => exact ⟨hb, h.2⟩
  | d c => exact h
  | pel e off => exact h
  | clo f caps => exact h
  | any => exact h
theorem rels.pull {ρ : Nat → Nat} {V : Vu} {w : World} {m : Nat} {xs : List CA} {vs : Array Value} (h : rels V w (xs.map (CA.ren ρ)) vs) (hb : ∀ x ∈ xs, x.below m) : rels (pull ρ V m) w xs vs :=
  ⟨by simpa using h.1, fun i x hx => let ⟨u, h1, h2⟩ := h.2 i (x.ren ρ) (by rw [List.getElem?_map, hx]; rfl); ⟨u, h1, h2.pull (hb x (List.mem_of_getElem? hx))⟩⟩
theorem AV.rel.pull {ρ : Nat → Nat} {V : Vu} {w : World} {m : Nat} {x : AV} {v : Value} (h : (x.ren ρ).rel V w v) (hb : x.below m) : x.rel (pull ρ V m) w v := by
  cases x with
  | one x => exact CA.rel.pull h hb
  | agg xs => obtain ⟨vs, h1, h2⟩ := h; exact ⟨vs, h1, h2.pull hb⟩
theorem TV.rel.pull {ρ : Nat → Nat} {V : Vu} {w : World} {m : Nat} {x : TV} {v : Value} (h : (x.ren ρ).rel V w v) (hb : x.below m) : x.rel (pull ρ V m) w v := by
  cases x with
  | v x => exact AV.rel.pull h hb
  | tup xs =>
    obtain ⟨vs, h1, h2, h3⟩ := h
    exact ⟨vs, h1, by simpa using h2, fun i x hx => let ⟨u, h4, h5⟩ := h3 i (x.ren ρ) (by rw [List.getElem?_map, hx]; rfl); ⟨u, h4, h5.pull (hb x (List.mem_of_getElem? hx))⟩⟩
  | unk => trivial
theorem HB.rel.pull {ρ : Nat → Nat} {V : Vu} {w : World} {m : Nat} {x : HB} {o : Obj} (h : (x.ren ρ).rel V w o) (hb : x.below m) : x.rel (pull ρ V m) w o := by
  cases x with
  | cells T xs => obtain ⟨vs, h3, h4⟩ := h; exact ⟨vs, h3, h4.pull hb⟩
  | obj o' => exact h
  | loop s p tm nt ps assign body D =>
    obtain ⟨-, fn, tmps, h3, h4, h5⟩ := h
    exact ⟨hb.1, fn, tmps, h3, h4, fun t x hx => (h5 t (x.ren ρ) (by rw [lk_map2, hx]; rfl)).pull (hb.2 t x hx)⟩
  | mp es clock =>
    obtain ⟨ents, h3, h4, h5⟩ := h
    exact ⟨ents, h3, by simpa using h4, fun i k x b hi => let ⟨v, h6, h7⟩ := h5 i k (x.ren ρ) b (by rw [List.getElem?_map, hi]; rfl); ⟨v, h6, h7.pull (hb _ (List.mem_of_getElem? hi))⟩⟩

/-- what is known within is known without -/
structure Via (ρ : Nat → Nat) (V1 V2 : Vu) : Prop where
  ι : ∀ i, i < V1.nx → ρ i < V2.nx ∧ V2.ι (ρ i) = V1.ι i
  cu : ∀ i, i < V1.nx → V2.cu (ρ i) = V1.cu i
  κ : ∀ i, i < V1.nx → V2.κ (ρ i) = V1.κ i
  S : ∀ b o, V1.S b o → V2.S b o
section
variable {ρ : Nat → Nat} {V1 V2 : Vu} {w : World}
theorem CA.rel.via (hV : Via ρ V1 V2) {x : CA} {v : Value} (h : x.rel V1 w v) : (x.ren ρ).rel V2 w v := by
  cases x with
  | ptr i off => exact ⟨(hV.ι i h.1).1, by rw [(hV.ι i h.1).2]; exact h.2⟩
  | fn f caps =>
    refine ⟨fun p hp => ?_, ?_⟩
    · obtain ⟨q, hq, rfl⟩ := List.mem_map.1 hp
      exact (hV.ι _ (h.1 q hq)).1
    · rw [h.2, List.map_map]
      congr 2
      exact List.map_congr_left fun p hp => by show _ = Value.pointer (some ⟨V2.ι (ρ p.1), p.2, none⟩); rw [(hV.ι _ (h.1 p hp)).2]
  | app i sz es => exact ⟨(hV.ι i h.1).1, by rw [hV.cu i h.1]; exact h.2.1, by rw [hV.κ i h.1]; exact h.2.2.1, Reads.mono hV.S (fun _ _ _ => rfl) h.2.2.2⟩
  | osl i off len cap => exact ⟨(hV.ι i h.1).1, by rw [(hV.ι i h.1).2]; exact h.2⟩
  | mp i => exact ⟨(hV.ι i h.1).1, by rw [(hV.ι i h.1).2]; exact h.2⟩
  | yld i => exact ⟨(hV.ι i h.1).1, by rw [(hV.ι i h.1).2]; exact h.2⟩
  | d c => exact Reads.mono hV.S (fun _ _ _ => rfl) h
  | pel e off => exact pelRel.mono hV.S (fun _ _ _ => rfl) h
  | clo f caps =>
    obtain ⟨ps, h1, h2, h3⟩ := h
    exact ⟨ps, h1, h2, fun i e off hi => let ⟨p, h4, h5⟩ := h3 i e off hi; ⟨p, h4, h5.mono hV.S (fun _ _ _ => rfl)⟩⟩
  | any => exact h
theorem rels.via (hV : Via ρ V1 V2) {xs : List CA} {vs : Array Value} (h : rels V1 w xs vs) : rels V2 w (xs.map (CA.ren ρ)) vs :=
  ⟨by simpa using h.1, fun i x hx => by
    rw [List.getElem?_map] at hx
    cases h1 : xs[i]? with
    | none => rw [h1] at hx; cases hx
    | some y => rw [h1] at hx; cases hx; obtain ⟨u, h2, h3⟩ := h.2 i y h1; exact ⟨u, h2, h3.via hV⟩⟩
theorem AV.rel.via (hV : Via ρ V1 V2) {x : AV} {v : Value} (h : x.rel V1 w v) : (x.ren ρ).rel V2 w v := by
  cases x with
  | one x => exact CA.rel.via hV h
  | agg xs => obtain ⟨vs, h1, h2⟩ := h; exact ⟨vs, h1, h2.via hV⟩
theorem TV.rel.via (hV : Via ρ V1 V2) {x : TV} {v : Value} (h : x.rel V1 w v) : (x.ren ρ).rel V2 w v := by
  cases x with
  | v x => exact AV.rel.via hV h
  | tup xs =>
    obtain ⟨vs, h1, h2, h3⟩ := h
    refine ⟨vs, h1, by simpa using h2, fun i x hx => ?_⟩
    rw [List.getElem?_map] at hx
    cases h4 : xs[i]? with
    | none => rw [h4] at hx; cases hx
    | some y => rw [h4] at hx; cases hx; obtain ⟨u, h5, h6⟩ := h3 i y h4; exact ⟨u, h5, h6.via hV⟩
  | unk => trivial
theorem HB.rel.via (hV : Via ρ V1 V2) {x : HB} {o : Obj} (h : x.rel V1 w o) : (x.ren ρ).rel V2 w o := by
  cases x with
  | cells T xs => obtain ⟨vs, h3, h4⟩ := h; exact ⟨vs, h3, h4.via hV⟩
  | obj o' => exact h
  | loop s p tm nt ps assign body D =>
    obtain ⟨h1, fn, tmps, h3, h4, h5⟩ := h
    refine ⟨(hV.ι D h1).1, fn, tmps, by rw [(hV.ι D h1).2]; exact h3, h4, fun t x hx => ?_⟩
    rw [lk_map2] at hx
    cases h6 : lk tm t with
    | none => rw [h6] at hx; cases hx
    | some y => rw [h6] at hx; cases hx; exact (h5 t y h6).via hV
  | mp es clock =>
    obtain ⟨ents, h3, h4, h5⟩ := h
    refine ⟨ents, h3, by simpa using h4, fun i k x b hi => ?_⟩
    rw [List.getElem?_map] at hi
    cases h6 : es[i]? with
    | none => rw [h6] at hi; cases hi
    | some y =>
      obtain ⟨k', x', b'⟩ := y
      rw [h6] at hi; cases hi
      obtain ⟨v, h7, h8⟩ := h5 i _ _ _ h6
      exact ⟨v, h7, h8.via hV⟩
end

open Classical in
/-- the names behind a call: those of the part as they are within, the others as they were -/
noncomputable def backV (ρ : Nat → Nat) (V V1 : Vu) (n : Nat) : Vu :=
  ⟨n, fun j => if h : ∃ i, ρ i = j then V1.ι h.choose else V.ι j, fun j => if h : ∃ i, ρ i = j then V1.κ h.choose else V.κ j, fun j => if h : ∃ i, ρ i = j then V1.cu h.choose else V.cu j, V1.S⟩
section
open Classical
variable {ρ : Nat → Nat} {V V1 : Vu} {n : Nat}
theorem choose_ren (inj : ∀ i j, ρ i = ρ j → i = j) {i : Nat} (h : ∃ k, ρ k = ρ i) : h.choose = i := inj _ _ h.choose_spec
theorem backV_ι (inj : ∀ i j, ρ i = ρ j → i = j) (i : Nat) : (backV ρ V V1 n).ι (ρ i) = V1.ι i := by
  have h : ∃ k, ρ k = ρ i := ⟨i, rfl⟩
  show (if h : ∃ k, ρ k = ρ i then V1.ι h.choose else V.ι (ρ i)) = _
  rw [dif_pos h, choose_ren inj h]
theorem backV_κ (inj : ∀ i j, ρ i = ρ j → i = j) (i : Nat) : (backV ρ V V1 n).κ (ρ i) = V1.κ i := by
  have h : ∃ k, ρ k = ρ i := ⟨i, rfl⟩
  show (if h : ∃ k, ρ k = ρ i then V1.κ h.choose else V.κ (ρ i)) = _
  rw [dif_pos h, choose_ren inj h]
theorem backV_cu (inj : ∀ i j, ρ i = ρ j → i = j) (i : Nat) : (backV ρ V V1 n).cu (ρ i) = V1.cu i := by
  have h : ∃ k, ρ k = ρ i := ⟨i, rfl⟩
  show (if h : ∃ k, ρ k = ρ i then V1.cu h.choose else V.cu (ρ i)) = _
  rw [dif_pos h, choose_ren inj h]
theorem backV_ι' {j : Nat} (h : ¬ ∃ i, ρ i = j) : (backV ρ V V1 n).ι j = V.ι j := dif_neg h
theorem backV_κ' {j : Nat} (h : ¬ ∃ i, ρ i = j) : (backV ρ V V1 n).κ j = V.κ j := dif_neg h
theorem backV_cu' {j : Nat} (h : ¬ ∃ i, ρ i = j) : (backV ρ V V1 n).cu j = V.cu j := dif_neg h
end

section
variable {E : Env} {V V1 : Vu} {hp hp0 hp1 hpF : List (Nat × HB)} {tk tk0 tk1 tkF : List (Nat × Option Tok)} {w w' : World} {ρ : Nat → Nat} {nx0 n : Nat}

theorem HRel.part (inj : ∀ i j, ρ i = ρ j → i = j) (h : HRel E V (renHp ρ hp0) (renTk ρ tk0) w) (b0 : hpBelow nx0 hp0) (c0 : tkBelow nx0 tk0) :
    HRel ⟨E.P, w, partM V (renHp ρ hp0) (renTk ρ tk0), pull ρ V nx0⟩ (pull ρ V nx0) hp0 tk0 w := by
  have eH : ∀ i B, lk hp0 i = some B → lk (renHp ρ hp0) (ρ i) = some (B.ren ρ) := fun i B hi => by
    have := lk_ren (f := HB.ren ρ) inj hp0 i
    rw [hi] at this; exact this
  have eT : ∀ i T, lk tk0 i = some T → lk (renTk ρ tk0) (ρ i) = some T := fun i T hi => by
    have := lk_ren (f := fun x : Option Tok => x) inj tk0 i
    rw [hi] at this; exact this
  refine ⟨ExtM.refl _ _, Vu.Le.refl _ _, h.sz, fun b o hs => .inl hs, fun i B hi => ?_, fun i j A B hi hj e => ?_, fun i B hi => ⟨.inr (.inl ⟨ρ i, _, eH i B hi, rfl⟩), (h.new _ _ (eH i B hi)).2⟩, fun i T hi => ?_, fun i j T U g hi hj ei ej => ?_⟩
  · obtain ⟨h1, h2⟩ := b0.get i B hi
    obtain ⟨-, o, h3, h4⟩ := h.own _ _ (eH i B hi)
    exact ⟨h1, o, h3, h4.pull h2⟩
  · exact inj _ _ (h.inj _ _ _ _ (eH i A hi) (eH j B hj) e)
  · obtain ⟨-, h2, xs, h3, h4⟩ := h.tok _ _ (eT i _ hi)
    exact ⟨c0.get i _ hi, h2, xs, h3, fun g hg => ⟨.inr (.inr ⟨ρ i, T, eT i _ hi, hg⟩), (h4 g hg).2.1, fun j B hj => (h4 g hg).2.2 _ _ (eH j B hj)⟩⟩
  · exact inj _ _ (h.tki _ _ T U g (eT i _ hi) (eT j _ hj) ei ej)

/-- A part of memory has been turned; the rest stands beside it. -/
theorem HRel.turn (inj : ∀ i j, ρ i = ρ j → i = j) (h : HRel E V hp tk w) (hh : hpLe hp (renHp ρ hp0)) (ht : tkLe tk (renTk ρ tk0)) (hhF : hpLe hp hpF) (htF : tkLe tk tkF)
    (old : ∀ i, i < nx0 → ρ i < V.nx) (new : ∀ i, nx0 ≤ i → ρ i = V.nx + (i - nx0)) (dF : ∀ i B, lk hpF i = some B → ∀ k, k < nx0 → ρ k ≠ i) (dT : ∀ i T, lk tkF i = some (some T) → ∀ k, k < nx0 → ρ k ≠ i)
    (b0 : hpBelow nx0 hp0) (c0 : tkBelow nx0 tk0) (hn : V1.nx + V.nx = n + nx0) (hle : nx0 ≤ V1.nx)
    (H : HRel ⟨E.P, w, partM V (renHp ρ hp0) (renTk ρ tk0), pull ρ V nx0⟩ V1 hp1 tk1 w') :
    HRel E (backV ρ V V1 n) (renHp ρ hp1 ++ hpF) (renTk ρ tk1 ++ tkF) w' ∧ V.Le (backV ρ V V1 n) w w' ∧ Via ρ V1 (backV ρ V V1 n) := by
  have L := H.le0
  have h0 := h.forgetLe hh ht
  have hF := h.forgetLe hhF htF
  have eHi : ∀ {l : List (Nat × HB)} {j B}, lk (renHp ρ l) j = some B → ∃ i x, ρ i = j ∧ lk l i = some x ∧ B = x.ren ρ := fun hj => lk_ren_inv inj hj
  have eTi : ∀ {l : List (Nat × Option Tok)} {j T}, lk (renTk ρ l) j = some T → ∃ i x, ρ i = j ∧ lk l i = some x ∧ T = x := fun hj => lk_ren_inv (f := fun x : Option Tok => x) inj hj
  have pE : ∀ k, partM V (renHp ρ hp0) (renTk ρ tk0) k → E.w0.heap.size ≤ k ∨ E.M k := by
    rintro k (⟨i, B, hi, rfl⟩ | ⟨i, T, hi, hg⟩)
    · exact (h0.new i B hi).1
    · obtain ⟨-, -, xs, -, h4⟩ := h0.tok i T hi
      exact (h4 k hg).1
  have Fl : ∀ i B, lk hpF i = some B → V.ι i < w.heap.size := fun i B hi => by
    obtain ⟨-, o, ho, -⟩ := hF.own i B hi
    exact heap_lt ho
  have Tl : ∀ i T g, lk tkF i = some (some T) → (V.κ i T.n).ownBlock = some g → g < w.heap.size := fun i T g hi hg => by
    obtain ⟨-, -, xs, h3, -⟩ := hF.tok i T hi
    exact (h3.lt g hg).2
  have nF : ∀ i, i < V.nx → (∀ k, k < nx0 → ρ k ≠ i) → ¬ ∃ k, ρ k = i := by
    rintro i hi hk ⟨k, hk2⟩
    rcases Nat.lt_or_ge k nx0 with h1 | h1
    · exact hk k h1 hk2
    · rw [new k h1] at hk2; omega
  have Fn : ∀ i B, lk hpF i = some B → ¬ ∃ k, ρ k = i := fun i B hi => nF i (hF.own i B hi).1 (dF i B hi)
  have Tn : ∀ i T, lk tkF i = some (some T) → ¬ ∃ k, ρ k = i := fun i T hi => nF i (hF.tok i T hi).1 (dT i T hi)
  have Fp : ∀ i B, lk hpF i = some B → ¬ partM V (renHp ρ hp0) (renTk ρ tk0) (V.ι i) := by
    rintro i B hi (⟨j, C, hj, e⟩ | ⟨j, T, hj, hg⟩)
    · obtain ⟨x, hx, -⟩ := hh.get j C hj
      obtain ⟨y, hy, -⟩ := hhF.get i B hi
      have := h.inj j i x y hx hy e
      subst this
      obtain ⟨k, -, hk, -⟩ := eHi hj
      exact Fn _ B hi ⟨k, hk⟩
    · obtain ⟨y, hy, -⟩ := hhF.get i B hi
      obtain ⟨-, -, xs, -, h4⟩ := h.tok j T (ht.get j T hj)
      exact (h4 _ hg).2.2 i y hy rfl
  have Tp : ∀ i T g, lk tkF i = some (some T) → (V.κ i T.n).ownBlock = some g → ¬ partM V (renHp ρ hp0) (renTk ρ tk0) g := by
    rintro i T g hi hg (⟨j, C, hj, e⟩ | ⟨j, U, hj, hg'⟩)
    · obtain ⟨x, hx, -⟩ := hh.get j C hj
      obtain ⟨-, -, xs, -, h4⟩ := h.tok i T (htF.get i T hi)
      exact (h4 _ hg).2.2 j x hx e
    · have := h.tki i j T U g (htF.get i T hi) (ht.get j U hj) hg hg'
      subst this
      obtain ⟨k, -, hk, -⟩ := eTi hj
      exact Tn _ T hi ⟨k, hk⟩
  have S1 : ∀ b o, V1.S b o → V.S b o ∨ w.heap.size ≤ b ∨ partM V (renHp ρ hp0) (renTk ρ tk0) b := H.sub
  have nn : ∀ i, i < V1.nx → ρ i < n := fun i hi => by
    rcases Nat.lt_or_ge i nx0 with h1 | h1
    · have := old i h1; omega
    · rw [new i h1]; omega
  have A2 : Via ρ V1 (backV ρ V V1 n) := ⟨fun i hi => ⟨nn i hi, backV_ι inj i⟩, fun i hi => backV_cu inj i, fun i hi => backV_κ inj i, fun b o hs => hs⟩
  have isNew : ∀ k, ρ k < V.nx → k < nx0 := fun k hk => by
    rcases Nat.lt_or_ge k nx0 with h1 | h1
    · exact h1
    · rw [new k h1] at hk; omega
  have A1 : V.Le (backV ρ V V1 n) w w' := by
    refine ⟨by show V.nx ≤ n; omega, fun i hi => ?_, fun i hi => ?_, fun i hi m hm => ?_, L.S, L.cell⟩
    · by_cases hq : ∃ k, ρ k = i
      · obtain ⟨k, rfl⟩ := hq
        rw [backV_ι inj]; exact L.ι k (isNew k hi)
      · exact backV_ι' hq
    · by_cases hq : ∃ k, ρ k = i
      · obtain ⟨k, rfl⟩ := hq
        rw [backV_cu inj]; exact L.cu k (isNew k hi)
      · rw [backV_cu' hq]; exact Nat.le_refl _
    · by_cases hq : ∃ k, ρ k = i
      · obtain ⟨k, rfl⟩ := hq
        rw [backV_κ inj]; exact L.κ k (isNew k hi) m hm
      · rw [backV_κ' hq]
  have hsize : w.heap.size ≤ w'.heap.size := H.ext.size
  have keep : ∀ k, k < w.heap.size → ¬ partM V (renHp ρ hp0) (renTk ρ tk0) k → w'.heap[k]? = w.heap[k]? := H.ext.block
  have inE : ∀ k, (w.heap.size ≤ k ∨ partM V (renHp ρ hp0) (renTk ρ tk0) k) → E.w0.heap.size ≤ k ∨ E.M k := fun k hk => by
    rcases hk with h1 | h1
    · exact .inl (Nat.le_trans h.ext.size h1)
    · exact pE k h1
  refine ⟨⟨?_, h.le0.trans A1, H.sz, ?_, ?_, ?_, ?_, ?_, ?_⟩, A1, A2⟩
  · refine ⟨H.ext.os.trans h.ext.os, H.ext.tape.trans h.ext.tape, H.ext.output.trans h.ext.output, Nat.le_trans h.ext.size hsize, fun k hk hM => ?_⟩
    refine (keep k (Nat.lt_of_lt_of_le hk h.ext.size) fun hp => ?_).trans (h.ext.block k hk hM)
    rcases pE k hp with h1 | h1
    · omega
    · exact hM h1
  · intro b o hs
    rcases S1 b o hs with h1 | h1
    · exact h.sub b o h1
    · exact .inr (inE b h1)
  · intro i B hi
    rcases lk_app_some hi with hi | hi
    · obtain ⟨k, x, rfl, hk, rfl⟩ := eHi hi
      obtain ⟨h1, o, h3, h4⟩ := H.own k x hk
      exact ⟨nn k h1, o, by rw [backV_ι inj]; exact h3, h4.via A2⟩
    · obtain ⟨h1, o, h3, h4⟩ := hF.own i B hi
      exact ⟨by show i < n; omega, o, by rw [backV_ι' (Fn i B hi), keep _ (Fl i B hi) (Fp i B hi)]; exact h3, h4.mono A1⟩
  · have mix : ∀ i j A B, lk (renHp ρ hp1) i = some A → lk hpF j = some B → (backV ρ V V1 n).ι i = (backV ρ V V1 n).ι j → False := fun i j A B hi hj e => by
      obtain ⟨k, x, rfl, hk, -⟩ := eHi hi
      rw [backV_ι inj, backV_ι' (Fn j B hj)] at e
      rcases (H.new k x hk).1 with h2 | h2
      · rw [e] at h2
        exact absurd h2 (Nat.not_le.2 (Fl j B hj))
      · rw [e] at h2
        exact Fp j B hj h2
    intro i j A B hi hj e
    rcases lk_app_some hi with hi | hi <;> rcases lk_app_some hj with hj | hj
    · obtain ⟨k, x, rfl, hk, -⟩ := eHi hi
      obtain ⟨k', x', rfl, hk', -⟩ := eHi hj
      rw [backV_ι inj, backV_ι inj] at e
      rw [H.inj k k' x x' hk hk' e]
    · exact (mix i j A B hi hj e).elim
    · exact (mix j i B A hj hi e.symm).elim
    · rw [backV_ι' (Fn i A hi), backV_ι' (Fn j B hj)] at e
      exact hF.inj i j A B hi hj e
  · intro i B hi
    rcases lk_app_some hi with hi | hi
    · obtain ⟨k, x, rfl, hk, -⟩ := eHi hi
      obtain ⟨h2, h3⟩ := H.new k x hk
      rw [backV_ι inj]
      exact ⟨inE _ h2, h3⟩
    · obtain ⟨h2, h3⟩ := hF.new i B hi
      rw [backV_ι' (Fn i B hi)]
      refine ⟨h2, fun o hs => ?_⟩
      rcases S1 _ o hs with h4 | h4 | h4
      · exact h3 o h4
      · exact absurd h4 (Nat.not_le.2 (Fl i B hi))
      · exact Fp i B hi h4
  · intro i T hi
    rcases lk_app_some hi with hi | hi
    · obtain ⟨k, x, rfl, hk, e⟩ := eTi hi
      subst e
      obtain ⟨h1, h2, xs, h3, h4⟩ := H.tok k T hk
      refine ⟨nn k h1, by rw [backV_cu inj]; exact h2, xs, by rw [backV_κ inj]; exact h3, fun g hg => ?_⟩
      rw [backV_κ inj] at hg
      obtain ⟨h5, h6, h7⟩ := h4 g hg
      refine ⟨inE g h5, h6, fun j B hj => ?_⟩
      rcases lk_app_some hj with hj | hj
      · obtain ⟨k', x', rfl, hk', -⟩ := eHi hj
        rw [backV_ι inj]; exact h7 k' x' hk'
      · intro e
        rw [backV_ι' (Fn j B hj)] at e
        rcases h5 with h5 | h5
        · have := Fl j B hj
          rw [e] at this
          exact absurd h5 (Nat.not_le.2 this)
        · exact Fp j B hj (by rw [e]; exact h5)
    · have hq := Tn i T hi
      obtain ⟨h1, h2, xs, h3, h4⟩ := hF.tok i T hi
      refine ⟨by show i < n; omega, by rw [backV_cu' hq]; exact h2, xs, ?_, fun g hg => ?_⟩
      · rw [backV_κ' hq]
        exact ownsRow_same h3 fun g hg => keep g (Tl i T g hi hg) (Tp i T g hi hg)
      · rw [backV_κ' hq] at hg
        obtain ⟨h5, h6, h7⟩ := h4 g hg
        refine ⟨h5, fun o hs => ?_, fun j B hj => ?_⟩
        · rcases S1 _ o hs with h8 | h8 | h8
          · exact h6 o h8
          · exact absurd h8 (Nat.not_le.2 (Tl i T g hi hg))
          · exact absurd h8 (Tp i T g hi hg)
        · rcases lk_app_some hj with hj | hj
          · intro e
            obtain ⟨k', x', rfl, hk', -⟩ := eHi hj
            rw [backV_ι inj] at e
            rcases (H.new k' x' hk').1 with h9 | h9
            · rw [e] at h9
              exact absurd h9 (Nat.not_le.2 (Tl i T g hi hg))
            · rw [e] at h9
              exact Tp i T g hi hg h9
          · rw [backV_ι' (Fn j B hj)]; exact h7 j B hj
  · have mix : ∀ i j T U g, lk (renTk ρ tk1) i = some (some T) → lk tkF j = some (some U) → ((backV ρ V V1 n).κ i T.n).ownBlock = some g → ((backV ρ V V1 n).κ j U.n).ownBlock = some g → False := fun i j T U g hi hj ei ej => by
      obtain ⟨k, x, rfl, hk, e⟩ := eTi hi
      subst e
      rw [backV_κ inj] at ei
      rw [backV_κ' (Tn j U hj)] at ej
      obtain ⟨-, -, xs, -, h4⟩ := H.tok k T hk
      rcases (h4 g ei).1 with h5 | h5
      · exact absurd h5 (Nat.not_le.2 (Tl j U g hj ej))
      · exact Tp j U g hj ej h5
    intro i j T U g hi hj ei ej
    rcases lk_app_some hi with hi | hi <;> rcases lk_app_some hj with hj | hj
    · obtain ⟨k, x, rfl, hk, e⟩ := eTi hi
      subst e
      obtain ⟨k', x', rfl, hk', e⟩ := eTi hj
      subst e
      rw [backV_κ inj] at ei ej
      rw [H.tki k k' T U g hk hk' ei ej]
    · exact (mix i j T U g hi hj ei ej).elim
    · exact (mix j i U T g hj hi ej ei).elim
    · rw [backV_κ' (Tn i T hi)] at ei
      rw [backV_κ' (Tn j U hj)] at ej
      exact hF.tki i j T U g hi hj ei ej
end

theorem tkBelow_all {m : Nat} : ∀ {l : List (Nat × Option Tok)}, (l.all fun p => Nat.blt p.1 m) = true → tkBelow m l
  | [], _ => trivial
  | (i, x) :: l, h => by
    rw [List.all_cons, Bool.and_eq_true] at h
    exact ⟨blt_t h.1, tkBelow_all h.2⟩
def nodupN : List Nat → Bool
  | [] => true
  | x :: l => cond (l.any fun y => Nat.beq x y) false (nodupN l)
theorem nodupN_ok : ∀ {l : List Nat}, nodupN l = true → l.Nodup
  | [], _ => List.nodup_nil
  | x :: l, h => by
    unfold nodupN at h
    cases h1 : (l.any fun y => Nat.beq x y) with
    | true => rw [h1] at h; cases h
    | false =>
      rw [h1] at h
      refine List.nodup_cons.2 ⟨fun hm => ?_, nodupN_ok h⟩
      have := List.any_eq_false.1 h1 x hm
      simp at this
def apartB {α : Type} (rs : List Nat) (l : List (Nat × α)) : Bool := l.all fun p => rs.all fun q => cond (Nat.beq q p.1) false true
theorem apartB_ok {α : Type} {rs : List Nat} {l : List (Nat × α)} (h : apartB rs l = true) {i : Nat} {x : α} (hi : lk l i = some x) : i ∉ rs := fun hm => by
  have h1 := List.all_eq_true.1 (List.all_eq_true.1 h _ (lk_memF hi)) i hm
  have h2 : Nat.beq i i = true := by simp
  dsimp only at h1
  rw [h2] at h1; cases h1

/-- A call in a part of memory. -/
theorem OpOK.callG {E : Env} {st : St} {dd : Option Tmp} {ty : TypeId} {pos : String} {af : Array Edge} {g : Option (Nat × Bool)} {x : Operand} {f : FuncId} {caps : List (Nat × Nat)} {as : Array Operand} {args args0 : List AV} {ats : Array TypeId} {res res2 : TV} {hp0 hp1 hp1' hpF : List (Nat × HB)} {tk0 tk1 tk1' tkF : List (Nat × Option Tok)} {nx0 nx1 nx2 n : Nat}
    (rs : List Nat) (hx : ev st.tm x = some (.v (.one (.fn f caps)))) (ha : evArgs st.tm as.toList = some args)
    (hc : CallM E.P f args0 ⟨hp0, tk0, nx0⟩ res ⟨hp1, tk1, nx1⟩) (hst : st.nx = n) (he : args ++ ptrs caps = args0.map (AV.ren (rho rs n))) (e3 : renHp (rho rs n) hp1 = hp1') (e4 : renTk (rho rs n) tk1 = tk1') (e5 : res.ren (rho rs n) = res2)
    (hh : hpLe st.hp (renHp (rho rs n) hp0)) (ht : tkLe st.tk (renTk (rho rs n) tk0)) (hhF : hpLe st.hp hpF) (htF : tkLe st.tk tkF) (hl : Nat.beq rs.length nx0 = true) (hnd : nodupN rs = true) (hlt : (rs.all fun j => Nat.blt j n) = true) (d1 : apartB rs hpF = true) (d2 : apartB rs tkF = true)
    (b0 : hpBelow nx0 hp0) (c0 : (tk0.all fun p => Nat.blt p.1 nx0) = true) (ba : (args0.all fun y => y.belowB nx0) = true) (hle : Nat.ble nx0 nx1 = true) (hn : Nat.beq (nx1 + n) (nx2 + nx0) = true) :
    OpOK E ⟨dd, .call { callee := .value x, args := as, argTypes := ats }, ty, pos, af, g⟩ st res2 ⟨hp1' ++ hpF, tk1' ++ tkF, nx2⟩ := by
  subst hst e3 e4 e5
  have c0' := tkBelow_all c0
  have hl' : rs.length = nx0 := Nat.eq_of_beq_eq_true hl
  have hlt' : ∀ j ∈ rs, j < st.nx := fun j hj => blt_t (List.all_eq_true.1 hlt j hj)
  have inj : ∀ i j, rho rs st.nx i = rho rs st.nx j → i = j := fun i j h => rho_inj (nodupN_ok hnd) hlt' h
  intro V a w hr ro n K Q hK
  refine ⟨fun _ _ => trivial, ?_⟩
  rw [Oper.semAt_eq _ _ _ (by intro c h; cases h)]
  obtain ⟨hv1, hv2⟩ := hr.ev hx
  have hrun : (execOp a.eval ⟨dd, .call { callee := .value x, args := as, argTypes := ats }, ty, pos, af, g⟩).run E.P w = .ok (.enter f (as.map a.eval ++ (caps.map fun p => Value.pointer (some ⟨V.ι p.1, p.2, none⟩)).toArray)) w := by
    have := hc.1 (as.map a.eval ++ (caps.map fun p => Value.pointer (some ⟨V.ι p.1, p.2, none⟩)).toArray) w
    simp [execOp, resolve, hv2, Deferred.ofValue, invoke]
    simpa using this
  rw [hrun]
  refine ⟨(by intro h; cases h), ?_⟩
  have h0 := (hr.h.forgetLe hh ht).part inj b0 c0'
  have har : argsRel (pull (rho rs st.nx) V nx0) w args0 (as.map a.eval ++ (caps.map fun p => Value.pointer (some ⟨V.ι p.1, p.2, none⟩)).toArray) := by
    obtain ⟨h1, h2⟩ := (args_rel hr ha).append (ptrs_rel hv1)
    rw [he] at h1 h2
    refine ⟨by simpa using h1, fun i y hy => ?_⟩
    obtain ⟨u, hu, hyu⟩ := h2 i (y.ren _) (by rw [List.getElem?_map, hy]; rfl)
    exact ⟨u, hu, hyu.pull (AV.belowB_ok (List.all_eq_true.1 ba y (List.mem_of_getElem? hy)))⟩
  have hc' : CallsIn Fence.wide (n - 1) E.P f _ w _ := callsIn_wide.2 (hc.2 ⟨E.P, w, partM V _ _, pull (rho rs st.nx) V nx0⟩ _ w _ rfl h0 rfl har)
  refine CallsIn.mono (F := FR ro) hc' ?_
  rintro e w' ⟨v, V1, rfl, H, hn1, L, hres⟩
  have hn2 := Nat.eq_of_beq_eq_true hn
  have hnx := hr.nx
  dsimp only at hn1
  obtain ⟨H2, L2, L3⟩ := hr.h.turn (n := nx2) inj hh ht hhF htF (fun i hi => by rw [hnx]; exact hlt' _ (rho_mem (by omega))) (fun i hi => by rw [rho_ge (by omega), hnx, hl'])
    (fun i B hi k hk e => apartB_ok d1 hi (by rw [← e]; exact rho_mem (by omega))) (fun i T hi k hk e => apartB_ok d2 hi (by rw [← e]; exact rho_mem (by omega))) b0 c0' (by rw [hn1, hnx]; exact hn2) (by rw [hn1]; exact Nat.le_of_ble_eq_true hle) H
  exact hK _ w' v H2 rfl L2 (hres.via L3)

/-! ### How names are turned, box by box -/
theorem qZ {ρ : Nat → Nat} : renHp ρ [] = [] := rfl
theorem qB {ρ : Nat → Nat} {i j : Nat} {x y : HB} {r r' : List (Nat × HB)} (h1 : ρ i = j) (h2 : x.ren ρ = y) (h : renHp ρ r = r') : renHp ρ ((i, x) :: r) = (j, y) :: r' := by
  subst h1 h2 h; rfl
theorem flatE_ren {α : Type} [Enc α] (ρ : Nat → Nat) (l : List α) : (flatE l).map (CA.ren ρ) = flatE l := by
  unfold flatE; rw [List.map_map]; rfl
theorem qF {ρ : Nat → Nat} {i j : Nat} {T : TypeId} {α : Type} [Enc α] {xs : List α} {r r' : List (Nat × HB)} (h1 : ρ i = j) (h : renHp ρ r = r') : renHp ρ ((i, .cells T (flatE xs)) :: r) = (j, .cells T (flatE xs)) :: r' :=
  qB h1 (by show HB.cells T ((flatE xs).map (CA.ren ρ)) = _; rw [flatE_ren]) h
theorem qM {ρ : Nat → Nat} {i j c : Nat} {xs : List (Int × Int × Nat)} {r r' : List (Nat × HB)} (h1 : ρ i = j) (h : renHp ρ r = r') : renHp ρ ((i, .mp (imE xs) c) :: r) = (j, .mp (imE xs) c) :: r' :=
  qB h1 (by show HB.mp ((imE xs).map _) c = _; unfold imE; rw [List.map_map]; rfl) h

/-! ### What is known of the part -/
section
variable {ρ : Nat → Nat} {hp : List (Nat × HB)} {tk : List (Nat × Option Tok)}
theorem gZ : hpLe hp (renHp ρ []) := trivial
theorem gR {i : Nat} {x : HB} {r : List (Nat × HB)} (h : lk hp (ρ i) = some (x.ren ρ)) (l : hpLe hp (renHp ρ r)) : hpLe hp (renHp ρ ((i, x) :: r)) := ⟨⟨_, h, .refl _⟩, l⟩
theorem gF {i : Nat} {T : TypeId} {α : Type} [Enc α] {xs : List α} {r : List (Nat × HB)} (h : lk hp (ρ i) = some (.cells T (flatE xs))) (l : hpLe hp (renHp ρ r)) : hpLe hp (renHp ρ ((i, .cells T (flatE xs)) :: r)) :=
  gR (by show _ = some (HB.cells T ((flatE xs).map (CA.ren ρ))); rw [flatE_ren]; exact h) l
theorem gM {i c : Nat} {xs : List (Int × Int × Nat)} {r : List (Nat × HB)} (h : lk hp (ρ i) = some (.mp (imE xs) c)) (l : hpLe hp (renHp ρ r)) : hpLe hp (renHp ρ ((i, .mp (imE xs) c) :: r)) :=
  gR (by show _ = some (HB.mp ((imE xs).map _) c); unfold imE at h ⊢; rw [List.map_map]; exact h) l
theorem jZ : tkLe tk (renTk ρ []) := trivial
theorem jR {i : Nat} {T : Tok} {r : List (Nat × Option Tok)} (h : lk tk (ρ i) = some (some T)) (l : tkLe tk (renTk ρ r)) : tkLe tk (renTk ρ ((i, some T) :: r)) := ⟨fun T' e => by cases e; exact h, l⟩
end

/-! ### Recursion -/
def recO {σ β : Type} (F : (σ → Option β) → σ → Option β) : Nat → σ → Option β
  | 0, _ => none
  | n + 1, u => F (recO F n) u
theorem recO_ind {σ β : Type} {F : (σ → Option β) → σ → Option β} {C : σ → β → Prop} (h : ∀ rc : σ → Option β, (∀ u y, rc u = some y → C u y) → ∀ u y, F rc u = some y → C u y) : ∀ (n : Nat) (u : σ) (y : β), recO F n u = some y → C u y
  | 0, u, y, e => by cases e
  | n + 1, u, y, e => h _ (recO_ind h n) u y e
end Go.Proofs.YtcapifnaceegmaaGreatDoor
