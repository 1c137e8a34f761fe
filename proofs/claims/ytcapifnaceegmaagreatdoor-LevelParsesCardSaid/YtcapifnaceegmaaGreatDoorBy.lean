/- Slices of bytes, and the strings that they become. -/
import Derived.Test.YtcapifnaceegmaaGreatDoorStr
import Derived.Laws.BytesArg
namespace Go.Proofs.YtcapifnaceegmaaGreatDoor
open Go.RowKit
set_option linter.unusedSimpArgs false
set_option linter.unusedVariables false
set_option linter.unusedSectionVars false

structure Byt where
  n : Int
def Byt.u8 (b : Byt) : UInt8 := UInt8.ofNat b.n.toNat
def bytC (b : Byt) : List C := [.v (.int .u8 b.n)]
instance : Enc Byt := ⟨1, bytC, fun l => l.map bytC, rfl, fun a b => List.map_append, fun _ => rfl⟩
instance : EncLen Byt := ⟨fun _ => rfl, by decide⟩
def tyBytes (P : Program) (s : TypeId) : Bool := match P.underlying s with
  | some (.slice e) => match P.underlying e with
    | some (.int .u8) => true
    | _ => false
  | _ => false
theorem tyBytes_spec {P : Program} {s : TypeId} (h : tyBytes P s = true) : ∃ e, P.underlying s = some (.slice e) ∧ P.underlying e = some (.int .u8) := by
  unfold tyBytes at h
  split at h
  · rename_i e he
    split at h
    · rename_i h2; exact ⟨e, he, h2⟩
    · cases h
  · cases h

section
variable {E : Env} {st : St} {d : Option Tmp} {ty : TypeId} {pos : String} {af : Array Edge} {g : Option (Nat × Bool)}
theorem RO.bytesS {s t : TypeId} {x : Operand} {y : CA} {l : List Byt} (hs : tyBytes E.P s = true) (ht : isStrTy E.P t = true) (hx : ev st.tm x = some (.v (.one y))) (hl : SlE y l) : RO E ⟨d, .convert s t x, ty, pos, af, g⟩ st (TS (l.map Byt.u8)) := by
  refine ⟨(fun _ h => nomatch h), fun V a w hr => ⟨.string (sB (l.map Byt.u8)), ?_, rel_of rfl⟩⟩
  obtain ⟨e, h1, h2⟩ := tyBytes_spec hs
  have h3 : E.P.underlying t = some .string := by
    unfold isStrTy at ht
    split at ht
    · rename_i h; exact h
    · cases ht
  have hR := hl.sl.reads (hr.ev hx)
  have key : (convert s t (a.eval x)).run E.P w = .ok (.string (sB (l.map Byt.u8))) w := by
    generalize hv : a.eval x = v at hR
    have hle : ∀ es : List (List C), es = Enc.encL l → Reads V.S w (.sl 1 es) v → (convert s t v).run E.P w = .ok (.string (sB (l.map Byt.u8))) w := by
      intro es hes hR
      cases hR with
      | sl _ _ ad cap b off f hcap ha hln hc _ hr' =>
        have hlen : es.length = l.length := by rw [hes, Enc.len]
        have cells : ∀ i, i < l.length → w.cell? ⟨b, off + i, none⟩ = some (.int .u8 ((l.map Byt.n).getD i 0)) := fun i hi => by
          have hg : es[i]? = some [.v (.int .u8 (l[i]).n)] := by rw [hes]; exact Enc.get (List.getElem?_eq_getElem hi)
          have c1 := hc i _ 0 _ hg rfl
          have c2 := hr' i _ 0 _ hg rfl
          generalize hf : f i 0 = u at c1 c2
          cases c2
          rw [show off + i * 1 + 0 = off + i by omega] at c1
          rw [c1]
          simp [List.getD, hi]
        by_cases h0 : es = []
        · have hl0 : l = [] := List.eq_nil_of_length_eq_zero (by rw [← hlen, h0]; rfl)
          subst hl0
          rw [h0]
          rw [run_convert_bytes_string w s t e ad _ cap h1 h2 h3]
          cases ad with
          | none => simp [Conv.bytesToString]; rfl
          | some ad =>
            rw [run_bytesToString w ad _ cap [] (by
              have := run_loadCells_list (P := E.P) w ad [] (fun j v hj => by simp at hj)
              simpa using this)]
            rfl
        · rw [ha h0, hlen]
          rw [run_convert_bytes_arg w s e h1 h2 b off l.length cap (l.map Byt.n) (by simp) cells t h3]
          congr 2
          unfold strOfNums sB
          rw [List.map_map]; rfl
    exact hle _ rfl hR
  simp only [execOp, Sem.run_bind, key, Result.andThen_ok]
  rfl
end
end Go.Proofs.YtcapifnaceegmaaGreatDoor
