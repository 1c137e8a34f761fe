/- slices.Clone of a list of bounds: a slice of the caller's own. -/
import Derived.Test.YtkimijmiphkddaaArr
import Derived.Test.YtkimijmiphkddaaMa
namespace Go.Proofs.Ytkimijmiphkddaa
open Go.RowKit Go.Shelf
set_option linter.unusedSimpArgs false
set_option linter.unusedVariables false
set_option linter.unusedSectionVars false

theorem sl_22c : tySlice Try.prog 22 = some (41, 4) := by kernel_rfl
theorem z_41c : tyZero Try.prog 41 = some [.int .i64 0, .slice none 0 0, .int .i64 0, .slice none 0 0] := by kernel_rfl
theorem el_41c : tyElem Try.prog 41 = some (4, 64) := by kernel_rfl
theorem en_34 : Enters Try.prog 34 := enters_of Try.func34 (by kernel_rfl) rfl

set_option maxRecDepth 100000 in
theorem clone_call (l : List Bnd) (hl : Nat.ble (([] : List Bnd).length + l.length) 1000000000 = true) (m : Mem) : CallM Try.prog 34 [.one (.d (.sl 4 (Enc.encL l)))] m (resOf [.one (.app m.nx 4 (Enc.encL l))]) ⟨m.hp, (m.nx, some ⟨41, 4, (Enc.encL l).length⟩) :: m.tk, m.nx + 1⟩ := by
  refine CallM.of_body ⟨[(2, .v (.one (.app m.nx 4 (Enc.encL l))))], m.hp, (m.nx, some ⟨41, 4, (Enc.encL l).length⟩) :: m.tk, m.nx + 1, 8, []⟩ Try.func34 rfl en_34 (lb rfl) rfl (.tmp rfl .nil) (fun w0 M V0 Q hv hQn hQr => ?_)
  simp only [entry]
  refine XC.seq ?_
  refine XC.region ?_
  refine XL.rd rfl rfl (lb rfl) (RO.assign rfl) ?_
  refine XL.nil ?_
  refine XQ.seq ?_
  refine XC.seq ?_
  refine XC.seq ?_
  refine XC.region ?_
  refine XL.rd rfl rfl (lb rfl) (RO.move rfl) ?_
  refine XL.eqNil (α := Bnd) (l := l) rfl (lb rfl) sl_22c rfl (.d _) (fun b hb => ?_)
  refine XL.nil ?_
  refine XQ.seq ?_
  refine XC.cond (b := b) rfl (fun c => ?_) (fun c => ?_)
  · have e := hb c
    subst e
    refine XC.seq ?_
    refine XC.region ?_
    refine XL.rd rfl rfl (lb rfl) (RO.assign rfl) ?_
    refine XL.nil ?_
    refine XQ.seq ?_
    refine XC.adoptT (t := 2) 41 4 rfl ?_
    refine XC.ret ?_
    refine XQ.lessTm (tm' := [(2, .v (.one (.app m.nx 4 (Enc.encL ([] : List Bnd)))))]) (tR rfl tZ) ?_
    exact hQr
  · refine XC.skip ?_
    refine XQ.seq ?_
    refine XC.seq ?_
    refine XC.region ?_
    refine XL.put rfl rfl (lb rfl) (OpOK.lit0E (α := Bnd) sl_22c z_41c rfl rfl (lb rfl)) ?_
    refine XL.rd rfl rfl (lb rfl) (RO.move rfl) ?_
    refine XL.put rfl rfl (lb rfl) (OpOK.appendE (α := Bnd) (l := []) (l2 := l) sl_22c el_41c rfl rfl (by simp [lk]) rfl rfl (.d _) hl) ?_
    refine XL.rd rfl rfl (lb rfl) (RO.assign rfl) ?_
    refine XL.nil ?_
    refine XQ.seq ?_
    refine XC.ret ?_
    refine XQ.lessTm (tm' := [(2, .v (.one (.app m.nx 4 (Enc.encL l))))]) (tR rfl tZ) ?_
    refine XQ.congrTk (tk' := (m.nx, some ⟨41, 4, (Enc.encL l).length⟩) :: m.tk) (fun j => ?_) ?_
    · dsimp only
      rw [lk_put, lk_cons, lk_cons, lk_cons]
      split
      · rfl
      · rfl
    · exact hQr
theorem OpOK.clone {E : Env} {st : St} {dd : Option Tmp} {ty : TypeId} {pos : String} {af : Array Edge} {g : Option (Nat × Bool)} {xs : Array Operand} {ats : Array TypeId} {l : List Bnd} (hP : E.P = Try.prog) (ha : evArgs st.tm xs.toList = some [.one (.d (.sl 4 (Enc.encL l)))]) (hl : Nat.ble (([] : List Bnd).length + l.length) 1000000000 = true) :
    OpOK E ⟨dd, .call { callee := .value (.func 34), args := xs, argTypes := ats }, ty, pos, af, g⟩ st (.v (.one (.app st.nx 4 (Enc.encL l)))) ⟨st.hp, (st.nx, some ⟨41, 4, (Enc.encL l).length⟩) :: st.tk, st.nx + 1⟩ :=
  OpOK.call (E := E) (st := st) (dd := dd) (ty := ty) (pos := pos) (af := af) (g := g) (x := .func 34) (caps := []) rfl ha (by rw [hP]; exact clone_call l hl st.mem)
end Go.Proofs.Ytkimijmiphkddaa
