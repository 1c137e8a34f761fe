/- Strings as lists of bytes. -/
import Derived.Test.YtcapifnaceegmaaGreatDoorOwn
import Derived.Lib.Bytes
namespace Go.Proofs.YtcapifnaceegmaaGreatDoor
open Go.RowKit
set_option linter.unusedSimpArgs false
set_option linter.unusedVariables false
set_option linter.unusedSectionVars false

def sB (l : List UInt8) : ByteArray := ⟨l.toArray⟩
theorem sB_list (l : List UInt8) : (sB l).data.toList = l := rfl
theorem sB_of (s : ByteArray) : sB s.data.toList = s := by cases s; simp [sB]
theorem sB_size (l : List UInt8) : (sB l).size = l.length := by simp [sB, ByteArray.size]
theorem sB_toList (l : List UInt8) : (sB l).toList = l := by rw [Go.Lib.toList_data]; rfl
theorem sB_append (a b : List UInt8) : sB a ++ sB b = sB (a ++ b) := by
  apply ByteArray.ext
  simp [sB, ByteArray.data_append]
theorem sB_get (l : List UInt8) (k : Nat) : (sB l)[k]? = l[k]? := by
  by_cases h : k < l.length
  · rw [List.getElem?_eq_getElem h, getElem?_pos (sB l) k (by rw [sB_size]; exact h)]
    simp [sB, ByteArray.get, ByteArray.getElem_eq_getElem_data]
  · rw [List.getElem?_eq_none (by omega), getElem?_neg (sB l) k (by rw [sB_size]; exact h)]
theorem sB_extract (l : List UInt8) (a b : Nat) : (sB l).extract a b = sB ((l.take b).drop a) := by
  apply ByteArray.ext
  simp [sB, ByteArray.data_extract, List.extract_eq_take_drop, List.drop_take]
def strL (s : List UInt8) : List C := [.v (.string (sB s))]
instance : Enc (List UInt8) := ⟨1, strL, fun l => l.map strL, rfl, fun a b => List.map_append, fun _ => rfl⟩
abbrev dS8 (l : List UInt8) : CA := .d (.v (.string (sB l)))
abbrev TS (l : List UInt8) : TV := TVv (.string (sB l))

section
variable {E : Env} {st : St} {d : Option Tmp} {ty : TypeId} {pos : String} {af : Array Edge} {g : Option (Nat × Bool)}

theorem RO.addS {t t' : TypeId} {x y : Operand} {a b : List UInt8} (hx : ev st.tm x = some (TS a)) (hy : ev st.tm y = some (TS b)) (hg : Nat.ble (a.length + b.length) 1000000000 = true) : RO E ⟨d, .binOp .add t x y t', ty, pos, af, g⟩ st (TS (a ++ b)) := by
  have := RO.binStr (E := E) (d := d) (ty := ty) (pos := pos) (af := af) (g := g) (t := t) (t' := t') (op := .add) hx hy (v := .string (sB a ++ sB b)) (by
    have h1 := Nat.le_of_ble_eq_true hg
    have h2 : decide ((((sB a).size + (sB b).size : Nat) : Int) > IntKind.i64.max) = false := by
      rw [sB_size, sB_size]
      refine decide_eq_false ?_
      have : IntKind.i64.max = 9223372036854775807 := by decide
      omega
    simp only [strBin, h2, cond_false])
  rw [sB_append] at this
  exact this
theorem RO.eqS {t t' : TypeId} {x y : Operand} {a b : List UInt8} (hx : ev st.tm x = some (TS a)) (hy : ev st.tm y = some (TS b)) : RO E ⟨d, .binOp .eql t x y t', ty, pos, af, g⟩ st (TB (a == b)) := by
  have := RO.binStr (E := E) (d := d) (ty := ty) (pos := pos) (af := af) (g := g) (t := t) (t' := t') (op := .eql) hx hy (v := .bool (a == b)) (by simp only [strBin, sB_toList])
  exact this
theorem RO.neS {t t' : TypeId} {x y : Operand} {a b : List UInt8} (hx : ev st.tm x = some (TS a)) (hy : ev st.tm y = some (TS b)) : RO E ⟨d, .binOp .neq t x y t', ty, pos, af, g⟩ st (TB (!(a == b))) := by
  have := RO.binStr (E := E) (d := d) (ty := ty) (pos := pos) (af := af) (g := g) (t := t) (t' := t') (op := .neq) hx hy (v := .bool (!(a == b))) (by simp only [strBin, sB_toList])
  exact this
theorem RO.lenS {t : TypeId} {x : Operand} {a : List UInt8} (ht : isStrTy E.P t = true) (hx : ev st.tm x = some (TS a)) : RO E ⟨d, .call { callee := .builtin .len, args := #[x], argTypes := #[t] }, ty, pos, af, g⟩ st (TI a.length) := by
  have := RO.lenStr (E := E) (d := d) (ty := ty) (pos := pos) (af := af) (g := g) ht hx
  rw [sB_size] at this
  exact this
theorem RO.ixS {t : TypeId} {x y : Operand} {a : List UInt8} {k : IntKind} {m : Int} {b : UInt8} (ht : isStrTy E.P t = true) (hx : ev st.tm x = some (TS a)) (hy : ev st.tm y = some (TVv (.int k m))) (hv : idx a m = some b) : RO E ⟨d, .index t x y, ty, pos, af, g⟩ st (TVv (.int .u8 b.toNat)) := by
  obtain ⟨j, hj, hl⟩ := idxS hv
  exact RO.indexStr ht hx hy hj (by rw [sB_get]; exact hl)
theorem RO.fromS {t : TypeId} {o lo : Operand} {a : List UInt8} {m : Int} (ht : isStrTy E.P t = true) (hx : ev st.tm o = some (TS a)) (hlo : ev st.tm lo = some (TI m)) (hm : (cond (decide (0 ≤ m)) (Nat.ble m.toNat a.length) false) = true) : RO E ⟨d, .slice t o (some lo) none none, ty, pos, af, g⟩ st (TS (a.drop m.toNat)) := by
  have h0 : 0 ≤ m := of_decide_eq_true (cond_left hm)
  have hb := cond_right hm
  obtain ⟨k, rfl⟩ : ∃ k : Nat, m = (k : Int) := ⟨m.toNat, (Int.toNat_of_nonneg h0).symm⟩
  simp only [Int.toNat_natCast] at hb ⊢
  have := RO.sliceStr (E := E) (st := st) (d := d) (ty := ty) (pos := pos) (af := af) (g := g) (l := k) (h := a.length) ht hx (lo := some lo) (hi := none) (mx := none) (by
    have : ev st.tm lo = some (.v (.one (.d (.v (.int .i64 (.ofNat k)))))) := hlo
    rw [sB_size]
    simp only [boundsOf, hiOf, loOf, this, hb, cond_true])
  rw [sB_extract, List.take_length] at this
  exact this
theorem RO.toS {t : TypeId} {o hi : Operand} {a : List UInt8} {m : Int} (ht : isStrTy E.P t = true) (hx : ev st.tm o = some (TS a)) (hhi : ev st.tm hi = some (TI m)) (hm : (cond (decide (0 ≤ m)) (Nat.ble m.toNat a.length) false) = true) : RO E ⟨d, .slice t o none (some hi) none, ty, pos, af, g⟩ st (TS (a.take m.toNat)) := by
  have h0 : 0 ≤ m := of_decide_eq_true (cond_left hm)
  have hb := cond_right hm
  obtain ⟨k, rfl⟩ : ∃ k : Nat, m = (k : Int) := ⟨m.toNat, (Int.toNat_of_nonneg h0).symm⟩
  simp only [Int.toNat_natCast] at hb ⊢
  have := RO.sliceStr (E := E) (st := st) (d := d) (ty := ty) (pos := pos) (af := af) (g := g) (l := 0) (h := k) ht hx (lo := none) (hi := some hi) (mx := none) (by
    have : ev st.tm hi = some (.v (.one (.d (.v (.int .i64 (.ofNat k)))))) := hhi
    rw [sB_size]
    simp only [boundsOf, hiOf, loOf, this, hb, cond_true])
  rw [sB_extract, List.drop_zero] at this
  exact this
theorem RO.midS {t : TypeId} {o lo hi : Operand} {a : List UInt8} {m n : Int} (ht : isStrTy E.P t = true) (hx : ev st.tm o = some (TS a)) (hlo : ev st.tm lo = some (TI m)) (hhi : ev st.tm hi = some (TI n)) (hm : (cond (decide (0 ≤ m)) (cond (Nat.ble m.toNat n.toNat) (cond (decide (0 ≤ n)) (Nat.ble n.toNat a.length) false) false) false) = true) : RO E ⟨d, .slice t o (some lo) (some hi) none, ty, pos, af, g⟩ st (TS ((a.take n.toNat).drop m.toNat)) := by
  have h0 : 0 ≤ m := of_decide_eq_true (cond_left hm)
  have h1 := cond_left (cond_right hm)
  have h2 : 0 ≤ n := of_decide_eq_true (cond_left (cond_right (cond_right hm)))
  have h3 := cond_right (cond_right (cond_right hm))
  obtain ⟨k, rfl⟩ : ∃ k : Nat, m = (k : Int) := ⟨m.toNat, (Int.toNat_of_nonneg h0).symm⟩
  obtain ⟨j, rfl⟩ : ∃ j : Nat, n = (j : Int) := ⟨n.toNat, (Int.toNat_of_nonneg h2).symm⟩
  simp only [Int.toNat_natCast] at h1 h3 ⊢
  have := RO.sliceStr (E := E) (st := st) (d := d) (ty := ty) (pos := pos) (af := af) (g := g) (l := k) (h := j) ht hx (lo := some lo) (hi := some hi) (mx := none) (by
    have e1 : ev st.tm lo = some (.v (.one (.d (.v (.int .i64 (.ofNat k)))))) := hlo
    have e2 : ev st.tm hi = some (.v (.one (.d (.v (.int .i64 (.ofNat j)))))) := hhi
    rw [sB_size]
    simp only [boundsOf, hiOf, loOf, e1, e2, h3, h1, cond_true])
  rw [sB_extract] at this
  exact this
end
end Go.Proofs.YtcapifnaceegmaaGreatDoor
