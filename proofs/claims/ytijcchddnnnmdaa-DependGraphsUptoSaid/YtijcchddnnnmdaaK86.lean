/- The statement DependGraphsUpto is proved here: for every list of declarations the law returns true, and the list reads behind the call as it did before; condition: the list is of bulk at most 1048576 (the second form). -/
import Derived.Test.YtijcchddnnnmdaaK85
import Derived.Deep.Slices
import Derived.ChangeSame
import Derived.Test.YtijcchddnnnmdaaRows
import Derived.Test.YtijcchddnnnmdaaProg
import Derived.Test.YtijcchddnnnmdaaChecked
import Derived.ProofKit
import Derived.Carry
import Derived.JoinedCond
namespace Go.Proofs.Ytijcchddnnnmdaa
open Go.RowKit Go.Shelf
set_option linter.unusedSimpArgs false
set_option linter.unusedVariables false
theorem sl_39 : tySlice Try.prog 39 = some (102, 2) := by kernel_rfl
theorem z_102 : tyZero Try.prog 102 = some [.int .i64 0, .slice none 0 0] := by kernel_rfl
theorem bd_42 : IsStruct Try.prog 42 [(0, 1), (1, 1), (2, 1), (3, 1), (4, 1)] [.int .i64 0, .int .i64 0, .string ByteArray.empty, .slice none 0 0, .slice none 0 0] := ⟨by kernel_rfl, by kernel_rfl⟩
theorem bd_48 : IsStruct Try.prog 48 [(0, 1), (1, 1), (2, 1), (3, 5), (8, 5), (13, 1), (14, 1), (15, 7), (22, 1)] [.int .i64 0, .string ByteArray.empty, .int .i64 0, .int .i64 0, .int .i64 0, .string ByteArray.empty, .slice none 0 0, .slice none 0 0, .int .i64 0, .int .i64 0, .string ByteArray.empty, .slice none 0 0, .slice none 0 0, .int .i64 0, .slice none 0 0, .int .i64 0, .int .i64 0, .int .i64 0, .string ByteArray.empty, .slice none 0 0, .slice none 0 0, .slice none 0 0, .slice none 0 0] := ⟨by kernel_rfl, by kernel_rfl⟩
theorem bd_84 : IsStruct Try.prog 84 [(0, 1), (1, 5)] [.string ByteArray.empty, .int .i64 0, .int .i64 0, .string ByteArray.empty, .slice none 0 0, .slice none 0 0] := ⟨by kernel_rfl, by kernel_rfl⟩
theorem bd_102 : IsStruct Try.prog 102 [(0, 1), (1, 1)] [.int .i64 0, .slice none 0 0] := ⟨by kernel_rfl, by kernel_rfl⟩
theorem en_11 : Enters Try.prog 11 := enters_of Try.func11 (by kernel_rfl) rfl
theorem en_33 : Enters Try.prog 33 := enters_of Try.func33 (by kernel_rfl) rfl
def m11  : Option Bool :=
  Option.bind (some ()) (fun (y1 : Unit) => Option.bind (m23o ([(⟨0, ([112, 108, 117, 115] : List UInt8), 0, (Tm.mk 3 0 ([78, 97, 116] : List UInt8) ([] : List Lvl) ([] : List Tm)), (Tm.mk 0 0 ([] : List UInt8) ([] : List Lvl) ([] : List Tm)), 0, ([] : List Ctr), (⟨0, (Tm.mk 0 0 ([] : List UInt8) ([] : List Lvl) ([] : List Tm)), ([] : List Tm)⟩ : Rcr), ([] : List Fn)⟩ : Dcl), (⟨3, ([78, 97, 116] : List UInt8), 0, (Tm.mk 2 0 ([] : List UInt8) [(⟨0, ([] : List LV)⟩ : Lvl)] ([] : List Tm)), (Tm.mk 0 0 ([] : List UInt8) ([] : List Lvl) ([] : List Tm)), 0, [(⟨([78, 97, 116, 46, 122, 101, 114, 111] : List UInt8), (Tm.mk 3 0 ([78, 97, 116] : List UInt8) ([] : List Lvl) ([] : List Tm))⟩ : Ctr), (⟨([78, 97, 116, 46, 115, 117, 99, 99] : List UInt8), (Tm.mk 3 0 ([78, 97, 116] : List UInt8) ([] : List Lvl) ([] : List Tm))⟩ : Ctr)], (⟨0, (Tm.mk 0 0 ([] : List UInt8) ([] : List Lvl) ([] : List Tm)), ([] : List Tm)⟩ : Rcr), ([] : List Fn)⟩ : Dcl), (⟨1, ([116, 119, 111] : List UInt8), 0, (Tm.mk 3 0 ([78, 97, 116] : List UInt8) ([] : List Lvl) ([] : List Tm)), (Tm.mk 3 0 ([78, 97, 116, 46, 122, 101, 114, 111] : List UInt8) ([] : List Lvl) ([] : List Tm)), 0, ([] : List Ctr), (⟨0, (Tm.mk 0 0 ([] : List UInt8) ([] : List Lvl) ([] : List Tm)), ([] : List Tm)⟩ : Rcr), ([] : List Fn)⟩ : Dcl)]) 3) fun (x3 : (List (List Int)) × Int) =>
  Option.bind (m22o ([(⟨0, ([112, 108, 117, 115] : List UInt8), 0, (Tm.mk 3 0 ([78, 97, 116] : List UInt8) ([] : List Lvl) ([] : List Tm)), (Tm.mk 0 0 ([] : List UInt8) ([] : List Lvl) ([] : List Tm)), 0, ([] : List Ctr), (⟨0, (Tm.mk 0 0 ([] : List UInt8) ([] : List Lvl) ([] : List Tm)), ([] : List Tm)⟩ : Rcr), ([] : List Fn)⟩ : Dcl), (⟨3, ([78, 97, 116] : List UInt8), 0, (Tm.mk 2 0 ([] : List UInt8) [(⟨0, ([] : List LV)⟩ : Lvl)] ([] : List Tm)), (Tm.mk 0 0 ([] : List UInt8) ([] : List Lvl) ([] : List Tm)), 0, [(⟨([78, 97, 116, 46, 122, 101, 114, 111] : List UInt8), (Tm.mk 3 0 ([78, 97, 116] : List UInt8) ([] : List Lvl) ([] : List Tm))⟩ : Ctr), (⟨([78, 97, 116, 46, 115, 117, 99, 99] : List UInt8), (Tm.mk 3 0 ([78, 97, 116] : List UInt8) ([] : List Lvl) ([] : List Tm))⟩ : Ctr)], (⟨0, (Tm.mk 0 0 ([] : List UInt8) ([] : List Lvl) ([] : List Tm)), ([] : List Tm)⟩ : Rcr), ([] : List Fn)⟩ : Dcl), (⟨1, ([116, 119, 111] : List UInt8), 0, (Tm.mk 3 0 ([78, 97, 116] : List UInt8) ([] : List Lvl) ([] : List Tm)), (Tm.mk 3 0 ([78, 97, 116, 46, 122, 101, 114, 111] : List UInt8) ([] : List Lvl) ([] : List Tm)), 0, ([] : List Ctr), (⟨0, (Tm.mk 0 0 ([] : List UInt8) ([] : List Lvl) ([] : List Tm)), ([] : List Tm)⟩ : Rcr), ([] : List Fn)⟩ : Dcl)]) 3) fun (x4 : (List Int) × Int) =>
  Option.bind (m12o ([(⟨0, ([112, 108, 117, 115] : List UInt8), 0, (Tm.mk 3 0 ([78, 97, 116] : List UInt8) ([] : List Lvl) ([] : List Tm)), (Tm.mk 0 0 ([] : List UInt8) ([] : List Lvl) ([] : List Tm)), 0, ([] : List Ctr), (⟨0, (Tm.mk 0 0 ([] : List UInt8) ([] : List Lvl) ([] : List Tm)), ([] : List Tm)⟩ : Rcr), ([] : List Fn)⟩ : Dcl), (⟨3, ([78, 97, 116] : List UInt8), 0, (Tm.mk 2 0 ([] : List UInt8) [(⟨0, ([] : List LV)⟩ : Lvl)] ([] : List Tm)), (Tm.mk 0 0 ([] : List UInt8) ([] : List Lvl) ([] : List Tm)), 0, [(⟨([78, 97, 116, 46, 122, 101, 114, 111] : List UInt8), (Tm.mk 3 0 ([78, 97, 116] : List UInt8) ([] : List Lvl) ([] : List Tm))⟩ : Ctr), (⟨([78, 97, 116, 46, 115, 117, 99, 99] : List UInt8), (Tm.mk 3 0 ([78, 97, 116] : List UInt8) ([] : List Lvl) ([] : List Tm))⟩ : Ctr)], (⟨0, (Tm.mk 0 0 ([] : List UInt8) ([] : List Lvl) ([] : List Tm)), ([] : List Tm)⟩ : Rcr), ([] : List Fn)⟩ : Dcl), (⟨1, ([116, 119, 111] : List UInt8), 0, (Tm.mk 3 0 ([78, 97, 116] : List UInt8) ([] : List Lvl) ([] : List Tm)), (Tm.mk 3 0 ([78, 97, 116, 46, 122, 101, 114, 111] : List UInt8) ([] : List Lvl) ([] : List Tm)), 0, ([] : List Ctr), (⟨0, (Tm.mk 0 0 ([] : List UInt8) ([] : List Lvl) ([] : List Tm)), ([] : List Tm)⟩ : Rcr), ([] : List Fn)⟩ : Dcl)]) ([([78, 97, 116] : List UInt8)]) 3) fun (x5 : (List Bs) × Int) =>
  Option.bind (m15o ([(⟨0, ([112, 108, 117, 115] : List UInt8), 0, (Tm.mk 3 0 ([78, 97, 116] : List UInt8) ([] : List Lvl) ([] : List Tm)), (Tm.mk 0 0 ([] : List UInt8) ([] : List Lvl) ([] : List Tm)), 0, ([] : List Ctr), (⟨0, (Tm.mk 0 0 ([] : List UInt8) ([] : List Lvl) ([] : List Tm)), ([] : List Tm)⟩ : Rcr), ([] : List Fn)⟩ : Dcl), (⟨3, ([78, 97, 116] : List UInt8), 0, (Tm.mk 2 0 ([] : List UInt8) [(⟨0, ([] : List LV)⟩ : Lvl)] ([] : List Tm)), (Tm.mk 0 0 ([] : List UInt8) ([] : List Lvl) ([] : List Tm)), 0, [(⟨([78, 97, 116, 46, 122, 101, 114, 111] : List UInt8), (Tm.mk 3 0 ([78, 97, 116] : List UInt8) ([] : List Lvl) ([] : List Tm))⟩ : Ctr), (⟨([78, 97, 116, 46, 115, 117, 99, 99] : List UInt8), (Tm.mk 3 0 ([78, 97, 116] : List UInt8) ([] : List Lvl) ([] : List Tm))⟩ : Ctr)], (⟨0, (Tm.mk 0 0 ([] : List UInt8) ([] : List Lvl) ([] : List Tm)), ([] : List Tm)⟩ : Rcr), ([] : List Fn)⟩ : Dcl), (⟨1, ([116, 119, 111] : List UInt8), 0, (Tm.mk 3 0 ([78, 97, 116] : List UInt8) ([] : List Lvl) ([] : List Tm)), (Tm.mk 3 0 ([78, 97, 116, 46, 122, 101, 114, 111] : List UInt8) ([] : List Lvl) ([] : List Tm)), 0, ([] : List Ctr), (⟨0, (Tm.mk 0 0 ([] : List UInt8) ([] : List Lvl) ([] : List Tm)), ([] : List Tm)⟩ : Rcr), ([] : List Fn)⟩ : Dcl)]) ([([116, 119, 111] : List UInt8)]) 3) fun (x6 : (List Dcl) × Int) =>
  Option.bind (idx ([(⟨0, ([112, 108, 117, 115] : List UInt8), 0, (Tm.mk 3 0 ([78, 97, 116] : List UInt8) ([] : List Lvl) ([] : List Tm)), (Tm.mk 0 0 ([] : List UInt8) ([] : List Lvl) ([] : List Tm)), 0, ([] : List Ctr), (⟨0, (Tm.mk 0 0 ([] : List UInt8) ([] : List Lvl) ([] : List Tm)), ([] : List Tm)⟩ : Rcr), ([] : List Fn)⟩ : Dcl), (⟨3, ([78, 97, 116] : List UInt8), 0, (Tm.mk 2 0 ([] : List UInt8) [(⟨0, ([] : List LV)⟩ : Lvl)] ([] : List Tm)), (Tm.mk 0 0 ([] : List UInt8) ([] : List Lvl) ([] : List Tm)), 0, [(⟨([78, 97, 116, 46, 122, 101, 114, 111] : List UInt8), (Tm.mk 3 0 ([78, 97, 116] : List UInt8) ([] : List Lvl) ([] : List Tm))⟩ : Ctr), (⟨([78, 97, 116, 46, 115, 117, 99, 99] : List UInt8), (Tm.mk 3 0 ([78, 97, 116] : List UInt8) ([] : List Lvl) ([] : List Tm))⟩ : Ctr)], (⟨0, (Tm.mk 0 0 ([] : List UInt8) ([] : List Lvl) ([] : List Tm)), ([] : List Tm)⟩ : Rcr), ([] : List Fn)⟩ : Dcl), (⟨1, ([116, 119, 111] : List UInt8), 0, (Tm.mk 3 0 ([78, 97, 116] : List UInt8) ([] : List Lvl) ([] : List Tm)), (Tm.mk 3 0 ([78, 97, 116, 46, 122, 101, 114, 111] : List UInt8) ([] : List Lvl) ([] : List Tm)), 0, ([] : List Ctr), (⟨0, (Tm.mk 0 0 ([] : List UInt8) ([] : List Lvl) ([] : List Tm)), ([] : List Tm)⟩ : Rcr), ([] : List Fn)⟩ : Dcl)]) 1) fun (x7 : Dcl) =>
  guardO (Nat.beq ([(⟨0, ([112, 108, 117, 115] : List UInt8), 0, (Tm.mk 3 0 ([78, 97, 116] : List UInt8) ([] : List Lvl) ([] : List Tm)), (Tm.mk 0 0 ([] : List UInt8) ([] : List Lvl) ([] : List Tm)), 0, ([] : List Ctr), (⟨0, (Tm.mk 0 0 ([] : List UInt8) ([] : List Lvl) ([] : List Tm)), ([] : List Tm)⟩ : Rcr), ([] : List Fn)⟩ : Dcl), (⟨3, ([78, 97, 116] : List UInt8), 0, (Tm.mk 2 0 ([] : List UInt8) [(⟨0, ([] : List LV)⟩ : Lvl)] ([] : List Tm)), (Tm.mk 0 0 ([] : List UInt8) ([] : List Lvl) ([] : List Tm)), 0, [(⟨([78, 97, 116, 46, 122, 101, 114, 111] : List UInt8), (Tm.mk 3 0 ([78, 97, 116] : List UInt8) ([] : List Lvl) ([] : List Tm))⟩ : Ctr), (⟨([78, 97, 116, 46, 115, 117, 99, 99] : List UInt8), (Tm.mk 3 0 ([78, 97, 116] : List UInt8) ([] : List Lvl) ([] : List Tm))⟩ : Ctr)], (⟨0, (Tm.mk 0 0 ([] : List UInt8) ([] : List Lvl) ([] : List Tm)), ([] : List Tm)⟩ : Rcr), ([] : List Fn)⟩ : Dcl), (⟨1, ([116, 119, 111] : List UInt8), 0, (Tm.mk 3 0 ([78, 97, 116] : List UInt8) ([] : List Lvl) ([] : List Tm)), (Tm.mk 3 0 ([78, 97, 116, 46, 122, 101, 114, 111] : List UInt8) ([] : List Lvl) ([] : List Tm)), 0, ([] : List Ctr), (⟨0, (Tm.mk 0 0 ([] : List UInt8) ([] : List Lvl) ([] : List Tm)), ([] : List Tm)⟩ : Rcr), ([] : List Fn)⟩ : Dcl)]).length 3)
  (Option.bind (m22o ([(⟨0, ([112, 108, 117, 115] : List UInt8), 0, (Tm.mk 3 0 ([78, 97, 116] : List UInt8) ([] : List Lvl) ([] : List Tm)), (Tm.mk 0 0 ([] : List UInt8) ([] : List Lvl) ([] : List Tm)), 0, ([] : List Ctr), (⟨0, (Tm.mk 0 0 ([] : List UInt8) ([] : List Lvl) ([] : List Tm)), ([] : List Tm)⟩ : Rcr), ([] : List Fn)⟩ : Dcl), (⟨3, ([78, 97, 116] : List UInt8), 0, (Tm.mk 2 0 ([] : List UInt8) [(⟨0, ([] : List LV)⟩ : Lvl)] ([] : List Tm)), (Tm.mk 3 0 ([116, 119, 111] : List UInt8) [] []), 0, [(⟨([78, 97, 116, 46, 122, 101, 114, 111] : List UInt8), (Tm.mk 3 0 ([78, 97, 116] : List UInt8) ([] : List Lvl) ([] : List Tm))⟩ : Ctr), (⟨([78, 97, 116, 46, 115, 117, 99, 99] : List UInt8), (Tm.mk 3 0 ([78, 97, 116] : List UInt8) ([] : List Lvl) ([] : List Tm))⟩ : Ctr)], (⟨0, (Tm.mk 0 0 ([] : List UInt8) ([] : List Lvl) ([] : List Tm)), ([] : List Tm)⟩ : Rcr), ([] : List Fn)⟩ : Dcl), (⟨1, ([116, 119, 111] : List UInt8), 0, (Tm.mk 3 0 ([78, 97, 116] : List UInt8) ([] : List Lvl) ([] : List Tm)), (Tm.mk 3 0 ([78, 97, 116, 46, 122, 101, 114, 111] : List UInt8) ([] : List Lvl) ([] : List Tm)), 0, ([] : List Ctr), (⟨0, (Tm.mk 0 0 ([] : List UInt8) ([] : List Lvl) ([] : List Tm)), ([] : List Tm)⟩ : Rcr), ([] : List Fn)⟩ : Dcl)]) 3) fun (x9 : (List Int) × Int) =>
  Option.bind (cond (x3.2 != 0)
    (some true)
    (cond (x4.2 != 0)
    (some true)
    (cond (x5.2 != 0)
    (some true)
    (cond (x6.2 != 0)
    (some true)
    (cond (x9.2 != 22)
    (some true)
    (cond ((x3.1.length : Int) != 3)
    (some true)
    (some ((x6.1.length : Int) != 2)))))))) (fun (v10 : Bool) => cond v10
    (some false)
    (Option.bind (Option.bind (idx x3.1 0) fun (x13 : List Int) =>
  Option.bind (m29 x13 ([1])) fun (x14 : Bool) =>
  cond x14
    (Option.bind (idx x3.1 1) fun (x16 : List Int) =>
  cond ((x16.length : Int) == 0)
    (Option.bind (idx x3.1 2) fun (x18 : List Int) =>
  Option.bind (m29 x18 ([1])) fun (x19 : Bool) =>
  cond x19
    (Option.bind (m29 x4.1 ([1, 0, 2])) fun (x21 : Bool) =>
  cond x21
    (Option.bind (m14 x5.1 ([([112, 108, 117, 115] : List UInt8), ([78, 97, 116] : List UInt8), ([78, 97, 116, 46, 122, 101, 114, 111] : List UInt8), ([78, 97, 116, 46, 115, 117, 99, 99] : List UInt8), ([78, 97, 116, 46, 114, 101, 99] : List UInt8), ([116, 119, 111] : List UInt8)])) fun (x23 : Bool) =>
  cond x23
    (Option.bind (idx x6.1 0) fun (x25 : Dcl) =>
  cond (x25.name == ([78, 97, 116] : List UInt8))
    (Option.bind (idx x6.1 1) fun (x27 : Dcl) =>
  some (x27.name == ([116, 119, 111] : List UInt8)))
    (some false))
    (some false))
    (some false))
    (some false))
    (some false))
    (some false)) (fun (v12 : Bool) => some v12)))))
set_option maxRecDepth 100000 in
set_option maxHeartbeats 2000000 in
theorem m11_ok  (r : Bool) (h0 : m11  = some r) : Fun Try.prog 11 [] (resOf [.one (dB r)]) := by
  unfold m11 at h0
  refine Fun.of_bodyM 9 115 Try.func11 rfl en_11 rfl (lb rfl) (fun S w => ?_)
  simp only [entry]
  refine XC.seq <| XC.region <| rA rfl rfl rfl <| XL.nil <| XQ.seq <| XC.seq <| XC.region ?_
  refine bindK h0 (fun y1 h1 h0 => ?_)
  have hc2 : CallM Try.prog 33 [] ⟨[], [], 0⟩ (resOf [.one (.osl 5 0 3 3)]) ⟨[(5, .cells 48 (flatE ([(⟨0, ([112, 108, 117, 115] : List UInt8), 0, (Tm.mk 3 0 ([78, 97, 116] : List UInt8) ([] : List Lvl) ([] : List Tm)), (Tm.mk 0 0 ([] : List UInt8) ([] : List Lvl) ([] : List Tm)), 0, ([] : List Ctr), (⟨0, (Tm.mk 0 0 ([] : List UInt8) ([] : List Lvl) ([] : List Tm)), ([] : List Tm)⟩ : Rcr), ([] : List Fn)⟩ : Dcl), (⟨3, ([78, 97, 116] : List UInt8), 0, (Tm.mk 2 0 ([] : List UInt8) [(⟨0, ([] : List LV)⟩ : Lvl)] ([] : List Tm)), (Tm.mk 0 0 ([] : List UInt8) ([] : List Lvl) ([] : List Tm)), 0, [(⟨([78, 97, 116, 46, 122, 101, 114, 111] : List UInt8), (Tm.mk 3 0 ([78, 97, 116] : List UInt8) ([] : List Lvl) ([] : List Tm))⟩ : Ctr), (⟨([78, 97, 116, 46, 115, 117, 99, 99] : List UInt8), (Tm.mk 3 0 ([78, 97, 116] : List UInt8) ([] : List Lvl) ([] : List Tm))⟩ : Ctr)], (⟨0, (Tm.mk 0 0 ([] : List UInt8) ([] : List Lvl) ([] : List Tm)), ([] : List Tm)⟩ : Rcr), ([] : List Fn)⟩ : Dcl), (⟨1, ([116, 119, 111] : List UInt8), 0, (Tm.mk 3 0 ([78, 97, 116] : List UInt8) ([] : List Lvl) ([] : List Tm)), (Tm.mk 3 0 ([78, 97, 116, 46, 122, 101, 114, 111] : List UInt8) ([] : List Lvl) ([] : List Tm)), 0, ([] : List Ctr), (⟨0, (Tm.mk 0 0 ([] : List UInt8) ([] : List Lvl) ([] : List Tm)), ([] : List Tm)⟩ : Rcr), ([] : List Fn)⟩ : Dcl)] : List Dcl)))], [], 6⟩ := by
   refine CallM.of_bodyD ⟨[(0, .v (.one (.osl 5 0 3 3)))], [(5, .cells 48 (flatE ([(⟨0, ([112, 108, 117, 115] : List UInt8), 0, (Tm.mk 3 0 ([78, 97, 116] : List UInt8) ([] : List Lvl) ([] : List Tm)), (Tm.mk 0 0 ([] : List UInt8) ([] : List Lvl) ([] : List Tm)), 0, ([] : List Ctr), (⟨0, (Tm.mk 0 0 ([] : List UInt8) ([] : List Lvl) ([] : List Tm)), ([] : List Tm)⟩ : Rcr), ([] : List Fn)⟩ : Dcl), (⟨3, ([78, 97, 116] : List UInt8), 0, (Tm.mk 2 0 ([] : List UInt8) [(⟨0, ([] : List LV)⟩ : Lvl)] ([] : List Tm)), (Tm.mk 0 0 ([] : List UInt8) ([] : List Lvl) ([] : List Tm)), 0, [(⟨([78, 97, 116, 46, 122, 101, 114, 111] : List UInt8), (Tm.mk 3 0 ([78, 97, 116] : List UInt8) ([] : List Lvl) ([] : List Tm))⟩ : Ctr), (⟨([78, 97, 116, 46, 115, 117, 99, 99] : List UInt8), (Tm.mk 3 0 ([78, 97, 116] : List UInt8) ([] : List Lvl) ([] : List Tm))⟩ : Ctr)], (⟨0, (Tm.mk 0 0 ([] : List UInt8) ([] : List Lvl) ([] : List Tm)), ([] : List Tm)⟩ : Rcr), ([] : List Fn)⟩ : Dcl), (⟨1, ([116, 119, 111] : List UInt8), 0, (Tm.mk 3 0 ([78, 97, 116] : List UInt8) ([] : List Lvl) ([] : List Tm)), (Tm.mk 3 0 ([78, 97, 116, 46, 122, 101, 114, 111] : List UInt8) ([] : List Lvl) ([] : List Tm)), 0, ([] : List Ctr), (⟨0, (Tm.mk 0 0 ([] : List UInt8) ([] : List Lvl) ([] : List Tm)), ([] : List Tm)⟩ : Rcr), ([] : List Fn)⟩ : Dcl)] : List Dcl)))], [], 6, 22, []⟩ rfl rfl en_33 (lb rfl) rfl (RAs.tmp rfl .nil) (fun w0 M V0 Q hv1 hQ1 => ?_)
   simp only [entry]
   refine XC.seq <| XC.region <| rA rfl rfl rfl <| XL.nil <| XQ.seq <| XC.seq <| XC.region <| rR rfl rfl rfl (RO.build2 bd_42 rfl rfl rfl rfl) <| XL.put rfl rfl (lb rfl) (OpOK.alloc z_42 rfl) <| XL.eff rfl rfl (OpOK.store ag_42 rfl rfl rfl rfl (lb rfl) rfl) <| XL.nil <| XQ.seq <| XC.seq <| XC.region ?_
   refine rR rfl rfl rfl (RO.build0 bd_102 rfl ) <| XL.put rfl rfl (lb rfl) (OpOK.lit1E (α := Lvl) ((⟨0, ([] : List LV)⟩ : Lvl)) sl_39 z_102 rfl rfl (lb rfl) (lb rfl) rfl rfl (.cons (.d _) (.cons (.nil _) .nil)) rfl) <| rR rfl rfl rfl (RO.build2 bd_42 rfl rfl rfl rfl) <| XL.put rfl rfl (lb rfl) (OpOK.alloc z_42 rfl) <| XL.eff rfl rfl (OpOK.store ag_42 rfl rfl rfl rfl (lb rfl) rfl) <| XL.nil <| XQ.seq <| XC.seq <| XC.region <| rR rfl rfl rfl (RO.loadOwnAgg ag_42 rfl rfl rfl rfl) <| rR rfl rfl rfl (RO.loadOwnAgg ag_42 rfl rfl rfl rfl) <| rR rfl rfl rfl (RO.build2 bd_84 rfl rfl rfl rfl) <| rR rfl rfl rfl (RO.loadOwnAgg ag_42 rfl rfl rfl rfl) <| rR rfl rfl rfl (RO.build2 bd_84 rfl rfl rfl rfl) ?_
   refine XL.put rfl rfl (lb rfl) (OpOK.lit2E (α := Ctr) (⟨([78, 97, 116, 46, 122, 101, 114, 111] : List UInt8), (Tm.mk 3 0 ([78, 97, 116] : List UInt8) ([] : List Lvl) ([] : List Tm))⟩ : Ctr) (⟨([78, 97, 116, 46, 115, 117, 99, 99] : List UInt8), (Tm.mk 3 0 ([78, 97, 116] : List UInt8) ([] : List Lvl) ([] : List Tm))⟩ : Ctr) sl_43 z_84 rfl rfl (lb rfl) (lb rfl) rfl rfl rfl (.cons (.d _) (.cons (.d _) (.cons (.d _) (.cons (.d _) (.cons (.nil _) (.cons (.nil _) (.cons (.d _) (.cons (.d _) (.cons (.d _) (.cons (.d _) (.cons (.nil _) (.cons (.nil _) .nil)))))))))))) ⟨rfl, rfl⟩) <| rR rfl rfl rfl (RO.buildN bd_48 rfl (.cons rfl (.cons rfl (.cons rfl (.cons rfl .nil)))) rfl) <| XL.put rfl rfl (lb rfl) (OpOK.alloc z_48 rfl) <| XL.eff rfl rfl (OpOK.store ag_48 rfl rfl rfl rfl (lb rfl) rfl) <| XL.nil <| XQ.seq <| XC.seq <| XC.region <| rR rfl rfl rfl (RO.loadOwnAgg ag_42 rfl rfl rfl rfl) <| rR rfl rfl rfl (RO.build3 bd_48 rfl rfl rfl rfl rfl) <| rR rfl rfl rfl (RO.loadOwnAgg ag_48 rfl rfl rfl rfl) <| rR rfl rfl rfl (RO.loadOwnAgg ag_42 rfl rfl rfl rfl) <| rR rfl rfl rfl (RO.build2 bd_42 rfl rfl rfl rfl) <| rR rfl rfl rfl (RO.buildN bd_48 rfl (.cons rfl (.cons rfl (.cons rfl (.cons rfl .nil)))) rfl) ?_
   refine XL.put rfl rfl (lb rfl) (OpOK.litO3 (α := Dcl) (⟨0, ([112, 108, 117, 115] : List UInt8), 0, (Tm.mk 3 0 ([78, 97, 116] : List UInt8) ([] : List Lvl) ([] : List Tm)), (Tm.mk 0 0 ([] : List UInt8) ([] : List Lvl) ([] : List Tm)), 0, ([] : List Ctr), (⟨0, (Tm.mk 0 0 ([] : List UInt8) ([] : List Lvl) ([] : List Tm)), ([] : List Tm)⟩ : Rcr), ([] : List Fn)⟩ : Dcl) (⟨3, ([78, 97, 116] : List UInt8), 0, (Tm.mk 2 0 ([] : List UInt8) [(⟨0, ([] : List LV)⟩ : Lvl)] ([] : List Tm)), (Tm.mk 0 0 ([] : List UInt8) ([] : List Lvl) ([] : List Tm)), 0, [(⟨([78, 97, 116, 46, 122, 101, 114, 111] : List UInt8), (Tm.mk 3 0 ([78, 97, 116] : List UInt8) ([] : List Lvl) ([] : List Tm))⟩ : Ctr), (⟨([78, 97, 116, 46, 115, 117, 99, 99] : List UInt8), (Tm.mk 3 0 ([78, 97, 116] : List UInt8) ([] : List Lvl) ([] : List Tm))⟩ : Ctr)], (⟨0, (Tm.mk 0 0 ([] : List UInt8) ([] : List Lvl) ([] : List Tm)), ([] : List Tm)⟩ : Rcr), ([] : List Fn)⟩ : Dcl) (⟨1, ([116, 119, 111] : List UInt8), 0, (Tm.mk 3 0 ([78, 97, 116] : List UInt8) ([] : List Lvl) ([] : List Tm)), (Tm.mk 3 0 ([78, 97, 116, 46, 122, 101, 114, 111] : List UInt8) ([] : List Lvl) ([] : List Tm)), 0, ([] : List Ctr), (⟨0, (Tm.mk 0 0 ([] : List UInt8) ([] : List Lvl) ([] : List Tm)), ([] : List Tm)⟩ : Rcr), ([] : List Fn)⟩ : Dcl) sl_22 z_48 rfl rfl (lb rfl) rfl rfl rfl rfl (.cons (.refl _) (.cons (.refl _) (.cons (.refl _) (.cons (.refl _) (.cons (.refl _) (.cons (.refl _) (.cons (.sub (.nil _)) (.cons (.sub (.nil _)) (.cons (.refl _) (.cons (.refl _) (.cons (.refl _) (.cons (.sub (.nil _)) (.cons (.sub (.nil _)) (.cons (.refl _) (.cons (.sub (.nil _)) (.cons (.refl _) (.cons (.refl _) (.cons (.refl _) (.cons (.refl _) (.cons (.sub (.nil _)) (.cons (.sub (.nil _)) (.cons (.sub (.nil _)) (.cons (.sub (.nil _)) (.cons (.refl _) (.cons (.refl _) (.cons (.refl _) (.cons (.refl _) (.cons (.refl _) (.cons (.refl _) (.cons (.sub (.app _ _ _)) (.cons (.sub (.nil _)) (.cons (.refl _) (.cons (.refl _) (.cons (.refl _) (.cons (.sub (.nil _)) (.cons (.sub (.nil _)) (.cons (.refl _) (.cons (.sub (.app _ _ _)) (.cons (.refl _) (.cons (.refl _) (.cons (.refl _) (.cons (.refl _) (.cons (.sub (.nil _)) (.cons (.sub (.nil _)) (.cons (.sub (.nil _)) (.cons (.sub (.nil _)) (.cons (.refl _) (.cons (.refl _) (.cons (.refl _) (.cons (.refl _) (.cons (.refl _) (.cons (.refl _) (.cons (.sub (.nil _)) (.cons (.sub (.nil _)) (.cons (.refl _) (.cons (.refl _) (.cons (.refl _) (.cons (.sub (.nil _)) (.cons (.sub (.nil _)) (.cons (.refl _) (.cons (.sub (.nil _)) (.cons (.refl _) (.cons (.refl _) (.cons (.refl _) (.cons (.refl _) (.cons (.sub (.nil _)) (.cons (.sub (.nil _)) (.cons (.sub (.nil _)) (.cons (.sub (.nil _)) .nil)))))))))))))))))))))))))))))))))))))))))))))))))))))))))))))))))))))) <| rA rfl rfl rfl <| XL.nil <| XQ.seq <| XC.ret ?_
   have e_ := Option.some.inj h1
   subst e_
   exact hQ1 _ _ _ (.inr rfl) rfl (stle (tR rfl tZ) (hR rfl hZ) kZ rfl (Nat.le_trans hv1 (lb rfl)) rfl rfl rfl (bF rfl bZ) rfl rfl)
  refine XL.put rfl rfl (lb rfl) (OpOK.callW rfl rfl rfl hc2 rfl hZ kZ) <| rA rfl rfl rfl <| XL.nil <| XQ.seq <| XC.seq <| XC.region <| rM rfl rfl rfl ?_
  refine bindK h0 (fun x3 hx3 h0 => ?_)
  refine XL.put rfl rfl (lb rfl) (OpOK.callO (b := 5) (m23o_ok ([(⟨0, ([112, 108, 117, 115] : List UInt8), 0, (Tm.mk 3 0 ([78, 97, 116] : List UInt8) ([] : List Lvl) ([] : List Tm)), (Tm.mk 0 0 ([] : List UInt8) ([] : List Lvl) ([] : List Tm)), 0, ([] : List Ctr), (⟨0, (Tm.mk 0 0 ([] : List UInt8) ([] : List Lvl) ([] : List Tm)), ([] : List Tm)⟩ : Rcr), ([] : List Fn)⟩ : Dcl), (⟨3, ([78, 97, 116] : List UInt8), 0, (Tm.mk 2 0 ([] : List UInt8) [(⟨0, ([] : List LV)⟩ : Lvl)] ([] : List Tm)), (Tm.mk 0 0 ([] : List UInt8) ([] : List Lvl) ([] : List Tm)), 0, [(⟨([78, 97, 116, 46, 122, 101, 114, 111] : List UInt8), (Tm.mk 3 0 ([78, 97, 116] : List UInt8) ([] : List Lvl) ([] : List Tm))⟩ : Ctr), (⟨([78, 97, 116, 46, 115, 117, 99, 99] : List UInt8), (Tm.mk 3 0 ([78, 97, 116] : List UInt8) ([] : List Lvl) ([] : List Tm))⟩ : Ctr)], (⟨0, (Tm.mk 0 0 ([] : List UInt8) ([] : List Lvl) ([] : List Tm)), ([] : List Tm)⟩ : Rcr), ([] : List Fn)⟩ : Dcl), (⟨1, ([116, 119, 111] : List UInt8), 0, (Tm.mk 3 0 ([78, 97, 116] : List UInt8) ([] : List Lvl) ([] : List Tm)), (Tm.mk 3 0 ([78, 97, 116, 46, 122, 101, 114, 111] : List UInt8) ([] : List Lvl) ([] : List Tm)), 0, ([] : List Ctr), (⟨0, (Tm.mk 0 0 ([] : List UInt8) ([] : List Lvl) ([] : List Tm)), ([] : List Tm)⟩ : Rcr), ([] : List Fn)⟩ : Dcl)]) 3 x3 hx3) rfl (.osl .nil) rfl rfl rfl) <| rM rfl rfl rfl <| rR rfl rfl rfl (RO.extract rfl rfl) <| rR rfl rfl rfl (RO.extract rfl rfl) <| rA rfl rfl rfl <| rA rfl rfl rfl <| XL.nil <| XQ.seq <| XC.seq <| XC.region <| rM rfl rfl rfl ?_
  refine bindK h0 (fun x4 hx4 h0 => ?_)
  refine XL.put rfl rfl (lb rfl) (OpOK.callO (b := 5) (m22o_ok ([(⟨0, ([112, 108, 117, 115] : List UInt8), 0, (Tm.mk 3 0 ([78, 97, 116] : List UInt8) ([] : List Lvl) ([] : List Tm)), (Tm.mk 0 0 ([] : List UInt8) ([] : List Lvl) ([] : List Tm)), 0, ([] : List Ctr), (⟨0, (Tm.mk 0 0 ([] : List UInt8) ([] : List Lvl) ([] : List Tm)), ([] : List Tm)⟩ : Rcr), ([] : List Fn)⟩ : Dcl), (⟨3, ([78, 97, 116] : List UInt8), 0, (Tm.mk 2 0 ([] : List UInt8) [(⟨0, ([] : List LV)⟩ : Lvl)] ([] : List Tm)), (Tm.mk 0 0 ([] : List UInt8) ([] : List Lvl) ([] : List Tm)), 0, [(⟨([78, 97, 116, 46, 122, 101, 114, 111] : List UInt8), (Tm.mk 3 0 ([78, 97, 116] : List UInt8) ([] : List Lvl) ([] : List Tm))⟩ : Ctr), (⟨([78, 97, 116, 46, 115, 117, 99, 99] : List UInt8), (Tm.mk 3 0 ([78, 97, 116] : List UInt8) ([] : List Lvl) ([] : List Tm))⟩ : Ctr)], (⟨0, (Tm.mk 0 0 ([] : List UInt8) ([] : List Lvl) ([] : List Tm)), ([] : List Tm)⟩ : Rcr), ([] : List Fn)⟩ : Dcl), (⟨1, ([116, 119, 111] : List UInt8), 0, (Tm.mk 3 0 ([78, 97, 116] : List UInt8) ([] : List Lvl) ([] : List Tm)), (Tm.mk 3 0 ([78, 97, 116, 46, 122, 101, 114, 111] : List UInt8) ([] : List Lvl) ([] : List Tm)), 0, ([] : List Ctr), (⟨0, (Tm.mk 0 0 ([] : List UInt8) ([] : List Lvl) ([] : List Tm)), ([] : List Tm)⟩ : Rcr), ([] : List Fn)⟩ : Dcl)]) 3 x4 hx4) rfl (.osl .nil) rfl rfl rfl) <| rM rfl rfl rfl <| rR rfl rfl rfl (RO.extract rfl rfl) <| rR rfl rfl rfl (RO.extract rfl rfl) <| rA rfl rfl rfl <| rA rfl rfl rfl <| XL.nil <| XQ.seq <| XC.seq <| XC.region <| rM rfl rfl rfl <| XL.put rfl rfl (lb rfl) (OpOK.lit1E (α := Bs) (([78, 97, 116] : List UInt8)) sl_23 z_9 rfl rfl (lb rfl) (lb rfl) rfl rfl (.cons (.d _) .nil) rfl) ?_
  refine bindK h0 (fun x5 hx5 h0 => ?_)
  refine XL.put rfl rfl (lb rfl) (OpOK.callO (b := 5) (m12o_ok ([(⟨0, ([112, 108, 117, 115] : List UInt8), 0, (Tm.mk 3 0 ([78, 97, 116] : List UInt8) ([] : List Lvl) ([] : List Tm)), (Tm.mk 0 0 ([] : List UInt8) ([] : List Lvl) ([] : List Tm)), 0, ([] : List Ctr), (⟨0, (Tm.mk 0 0 ([] : List UInt8) ([] : List Lvl) ([] : List Tm)), ([] : List Tm)⟩ : Rcr), ([] : List Fn)⟩ : Dcl), (⟨3, ([78, 97, 116] : List UInt8), 0, (Tm.mk 2 0 ([] : List UInt8) [(⟨0, ([] : List LV)⟩ : Lvl)] ([] : List Tm)), (Tm.mk 0 0 ([] : List UInt8) ([] : List Lvl) ([] : List Tm)), 0, [(⟨([78, 97, 116, 46, 122, 101, 114, 111] : List UInt8), (Tm.mk 3 0 ([78, 97, 116] : List UInt8) ([] : List Lvl) ([] : List Tm))⟩ : Ctr), (⟨([78, 97, 116, 46, 115, 117, 99, 99] : List UInt8), (Tm.mk 3 0 ([78, 97, 116] : List UInt8) ([] : List Lvl) ([] : List Tm))⟩ : Ctr)], (⟨0, (Tm.mk 0 0 ([] : List UInt8) ([] : List Lvl) ([] : List Tm)), ([] : List Tm)⟩ : Rcr), ([] : List Fn)⟩ : Dcl), (⟨1, ([116, 119, 111] : List UInt8), 0, (Tm.mk 3 0 ([78, 97, 116] : List UInt8) ([] : List Lvl) ([] : List Tm)), (Tm.mk 3 0 ([78, 97, 116, 46, 122, 101, 114, 111] : List UInt8) ([] : List Lvl) ([] : List Tm)), 0, ([] : List Ctr), (⟨0, (Tm.mk 0 0 ([] : List UInt8) ([] : List Lvl) ([] : List Tm)), ([] : List Tm)⟩ : Rcr), ([] : List Fn)⟩ : Dcl)]) ([([78, 97, 116] : List UInt8)]) 3 x5 hx5) rfl (.osl (.one (.app _ _ _) .nil)) rfl rfl rfl) <| rM rfl rfl rfl <| rR rfl rfl rfl (RO.extract rfl rfl) <| rR rfl rfl rfl (RO.extract rfl rfl) <| rA rfl rfl rfl <| rA rfl rfl rfl <| XL.nil <| XQ.seq <| XC.seq <| XC.region <| rM rfl rfl rfl <| XL.put rfl rfl (lb rfl) (OpOK.lit1E (α := Bs) (([116, 119, 111] : List UInt8)) sl_23 z_9 rfl rfl (lb rfl) (lb rfl) rfl rfl (.cons (.d _) .nil) rfl) ?_
  refine bindK h0 (fun x6 hx6 h0 => ?_)
  refine XL.put rfl rfl (lb rfl) (OpOK.callO (b := 5) (m15o_ok ([(⟨0, ([112, 108, 117, 115] : List UInt8), 0, (Tm.mk 3 0 ([78, 97, 116] : List UInt8) ([] : List Lvl) ([] : List Tm)), (Tm.mk 0 0 ([] : List UInt8) ([] : List Lvl) ([] : List Tm)), 0, ([] : List Ctr), (⟨0, (Tm.mk 0 0 ([] : List UInt8) ([] : List Lvl) ([] : List Tm)), ([] : List Tm)⟩ : Rcr), ([] : List Fn)⟩ : Dcl), (⟨3, ([78, 97, 116] : List UInt8), 0, (Tm.mk 2 0 ([] : List UInt8) [(⟨0, ([] : List LV)⟩ : Lvl)] ([] : List Tm)), (Tm.mk 0 0 ([] : List UInt8) ([] : List Lvl) ([] : List Tm)), 0, [(⟨([78, 97, 116, 46, 122, 101, 114, 111] : List UInt8), (Tm.mk 3 0 ([78, 97, 116] : List UInt8) ([] : List Lvl) ([] : List Tm))⟩ : Ctr), (⟨([78, 97, 116, 46, 115, 117, 99, 99] : List UInt8), (Tm.mk 3 0 ([78, 97, 116] : List UInt8) ([] : List Lvl) ([] : List Tm))⟩ : Ctr)], (⟨0, (Tm.mk 0 0 ([] : List UInt8) ([] : List Lvl) ([] : List Tm)), ([] : List Tm)⟩ : Rcr), ([] : List Fn)⟩ : Dcl), (⟨1, ([116, 119, 111] : List UInt8), 0, (Tm.mk 3 0 ([78, 97, 116] : List UInt8) ([] : List Lvl) ([] : List Tm)), (Tm.mk 3 0 ([78, 97, 116, 46, 122, 101, 114, 111] : List UInt8) ([] : List Lvl) ([] : List Tm)), 0, ([] : List Ctr), (⟨0, (Tm.mk 0 0 ([] : List UInt8) ([] : List Lvl) ([] : List Tm)), ([] : List Tm)⟩ : Rcr), ([] : List Fn)⟩ : Dcl)]) ([([116, 119, 111] : List UInt8)]) 3 x6 hx6) rfl (.osl (.one (.app _ _ _) .nil)) rfl rfl rfl) <| rM rfl rfl rfl <| rR rfl rfl rfl (RO.extract rfl rfl) <| rR rfl rfl rfl (RO.extract rfl rfl) <| rA rfl rfl rfl <| rA rfl rfl rfl <| XL.nil <| XQ.seq <| XC.seq <| XC.region <| rM rfl rfl rfl <| rR rfl rfl rfl (RO.build2 bd_42 rfl rfl rfl rfl) ?_
  refine bindK h0 (fun x7 hx7 h0 => ?_)
  refine guardK h0 (fun g8 h0 => ?_)
  refine rR rfl rfl rfl (RO.indexO (α := Dcl) sl_22 rfl rfl hx7 g8) <| rR rfl rfl rfl (RO.fieldOwn fo_48_4 rfl) ?_
  refine XL.eff rfl rfl (OpOK.storeOP (α := Dcl) (y' := .agg [dI 3, dI 0, dS8 ([116, 119, 111] : List UInt8), dS ([] : List Lvl), dS ([] : List Tm)]) [(⟨0, ([112, 108, 117, 115] : List UInt8), 0, (Tm.mk 3 0 ([78, 97, 116] : List UInt8) ([] : List Lvl) ([] : List Tm)), (Tm.mk 0 0 ([] : List UInt8) ([] : List Lvl) ([] : List Tm)), 0, ([] : List Ctr), (⟨0, (Tm.mk 0 0 ([] : List UInt8) ([] : List Lvl) ([] : List Tm)), ([] : List Tm)⟩ : Rcr), ([] : List Fn)⟩ : Dcl), (⟨3, ([78, 97, 116] : List UInt8), 0, (Tm.mk 2 0 ([] : List UInt8) [(⟨0, ([] : List LV)⟩ : Lvl)] ([] : List Tm)), (Tm.mk 3 0 ([116, 119, 111] : List UInt8) [] []), 0, [(⟨([78, 97, 116, 46, 122, 101, 114, 111] : List UInt8), (Tm.mk 3 0 ([78, 97, 116] : List UInt8) ([] : List Lvl) ([] : List Tm))⟩ : Ctr), (⟨([78, 97, 116, 46, 115, 117, 99, 99] : List UInt8), (Tm.mk 3 0 ([78, 97, 116] : List UInt8) ([] : List Lvl) ([] : List Tm))⟩ : Ctr)], (⟨0, (Tm.mk 0 0 ([] : List UInt8) ([] : List Lvl) ([] : List Tm)), ([] : List Tm)⟩ : Rcr), ([] : List Fn)⟩ : Dcl), (⟨1, ([116, 119, 111] : List UInt8), 0, (Tm.mk 3 0 ([78, 97, 116] : List UInt8) ([] : List Lvl) ([] : List Tm)), (Tm.mk 3 0 ([78, 97, 116, 46, 122, 101, 114, 111] : List UInt8) ([] : List Lvl) ([] : List Tm)), 0, ([] : List Ctr), (⟨0, (Tm.mk 0 0 ([] : List UInt8) ([] : List Lvl) ([] : List Tm)), ([] : List Tm)⟩ : Rcr), ([] : List Fn)⟩ : Dcl)] ag_42 rfl rfl (.agg (.cons (.d _) (.cons (.d _) (.cons (.d _) (.cons (.nil _) (.cons (.nil _) .nil)))))) rfl rfl rfl (by kernel_rfl) rfl) ?_
  refine XL.nil <| XQ.seq <| XC.seq <| XC.region <| rM rfl rfl rfl ?_
  refine bindK h0 (fun x9 hx9 h0 => ?_)
  refine XL.put rfl rfl (lb rfl) (OpOK.callO (b := 5) (m22o_ok ([(⟨0, ([112, 108, 117, 115] : List UInt8), 0, (Tm.mk 3 0 ([78, 97, 116] : List UInt8) ([] : List Lvl) ([] : List Tm)), (Tm.mk 0 0 ([] : List UInt8) ([] : List Lvl) ([] : List Tm)), 0, ([] : List Ctr), (⟨0, (Tm.mk 0 0 ([] : List UInt8) ([] : List Lvl) ([] : List Tm)), ([] : List Tm)⟩ : Rcr), ([] : List Fn)⟩ : Dcl), (⟨3, ([78, 97, 116] : List UInt8), 0, (Tm.mk 2 0 ([] : List UInt8) [(⟨0, ([] : List LV)⟩ : Lvl)] ([] : List Tm)), (Tm.mk 3 0 ([116, 119, 111] : List UInt8) [] []), 0, [(⟨([78, 97, 116, 46, 122, 101, 114, 111] : List UInt8), (Tm.mk 3 0 ([78, 97, 116] : List UInt8) ([] : List Lvl) ([] : List Tm))⟩ : Ctr), (⟨([78, 97, 116, 46, 115, 117, 99, 99] : List UInt8), (Tm.mk 3 0 ([78, 97, 116] : List UInt8) ([] : List Lvl) ([] : List Tm))⟩ : Ctr)], (⟨0, (Tm.mk 0 0 ([] : List UInt8) ([] : List Lvl) ([] : List Tm)), ([] : List Tm)⟩ : Rcr), ([] : List Fn)⟩ : Dcl), (⟨1, ([116, 119, 111] : List UInt8), 0, (Tm.mk 3 0 ([78, 97, 116] : List UInt8) ([] : List Lvl) ([] : List Tm)), (Tm.mk 3 0 ([78, 97, 116, 46, 122, 101, 114, 111] : List UInt8) ([] : List Lvl) ([] : List Tm)), 0, ([] : List Ctr), (⟨0, (Tm.mk 0 0 ([] : List UInt8) ([] : List Lvl) ([] : List Tm)), ([] : List Tm)⟩ : Rcr), ([] : List Fn)⟩ : Dcl)]) 3 x9 hx9) rfl (.osl .nil) rfl rfl rfl) <| rM rfl rfl rfl <| rR rfl rfl rfl (RO.extract rfl rfl) <| rR rfl rfl rfl (RO.extract rfl rfl) <| rA rfl rfl rfl <| rA rfl rfl rfl <| XL.nil <| XQ.seq <| XC.seq <| XC.seq ?_
  refine XC.joinR (fun (v10 : Bool) => ⟨[(2, .v (.one (dS x3.1))), (4, .v (.one (dS x4.1))), (6, .v (.one (dS x5.1))), (8, .v (.one (dS x6.1))), (71, .v (.one (dB v10)))], [(5, .cells 48 (flatE (([(⟨0, ([112, 108, 117, 115] : List UInt8), 0, (Tm.mk 3 0 ([78, 97, 116] : List UInt8) ([] : List Lvl) ([] : List Tm)), (Tm.mk 0 0 ([] : List UInt8) ([] : List Lvl) ([] : List Tm)), 0, ([] : List Ctr), (⟨0, (Tm.mk 0 0 ([] : List UInt8) ([] : List Lvl) ([] : List Tm)), ([] : List Tm)⟩ : Rcr), ([] : List Fn)⟩ : Dcl), (⟨3, ([78, 97, 116] : List UInt8), 0, (Tm.mk 2 0 ([] : List UInt8) [(⟨0, ([] : List LV)⟩ : Lvl)] ([] : List Tm)), (Tm.mk 3 0 ([116, 119, 111] : List UInt8) [] []), 0, [(⟨([78, 97, 116, 46, 122, 101, 114, 111] : List UInt8), (Tm.mk 3 0 ([78, 97, 116] : List UInt8) ([] : List Lvl) ([] : List Tm))⟩ : Ctr), (⟨([78, 97, 116, 46, 115, 117, 99, 99] : List UInt8), (Tm.mk 3 0 ([78, 97, 116] : List UInt8) ([] : List Lvl) ([] : List Tm))⟩ : Ctr)], (⟨0, (Tm.mk 0 0 ([] : List UInt8) ([] : List Lvl) ([] : List Tm)), ([] : List Tm)⟩ : Rcr), ([] : List Fn)⟩ : Dcl), (⟨1, ([116, 119, 111] : List UInt8), 0, (Tm.mk 3 0 ([78, 97, 116] : List UInt8) ([] : List Lvl) ([] : List Tm)), (Tm.mk 3 0 ([78, 97, 116, 46, 122, 101, 114, 111] : List UInt8) ([] : List Lvl) ([] : List Tm)), 0, ([] : List Ctr), (⟨0, (Tm.mk 0 0 ([] : List UInt8) ([] : List Lvl) ([] : List Tm)), ([] : List Tm)⟩ : Rcr), ([] : List Fn)⟩ : Dcl)]) : List Dcl)))], [(6, some ⟨9, 1, (Enc.encL ([([78, 97, 116] : List UInt8)] : List Bs)).length, []⟩), (7, some ⟨9, 1, (Enc.encL ([([116, 119, 111] : List UInt8)] : List Bs)).length, []⟩)], 8, 115, []⟩) (fun (v10 : Bool) => (cond v10
      (some false)
      (Option.bind (Option.bind (idx x3.1 0) fun (x13 : List Int) =>
    Option.bind (m29 x13 ([1])) fun (x14 : Bool) =>
    cond x14
      (Option.bind (idx x3.1 1) fun (x16 : List Int) =>
    cond ((x16.length : Int) == 0)
      (Option.bind (idx x3.1 2) fun (x18 : List Int) =>
    Option.bind (m29 x18 ([1])) fun (x19 : Bool) =>
    cond x19
      (Option.bind (m29 x4.1 ([1, 0, 2])) fun (x21 : Bool) =>
    cond x21
      (Option.bind (m14 x5.1 ([([112, 108, 117, 115] : List UInt8), ([78, 97, 116] : List UInt8), ([78, 97, 116, 46, 122, 101, 114, 111] : List UInt8), ([78, 97, 116, 46, 115, 117, 99, 99] : List UInt8), ([78, 97, 116, 46, 114, 101, 99] : List UInt8), ([116, 119, 111] : List UInt8)])) fun (x23 : Bool) =>
    cond x23
      (Option.bind (idx x6.1 0) fun (x25 : Dcl) =>
    cond (x25.name == ([78, 97, 116] : List UInt8))
      (Option.bind (idx x6.1 1) fun (x27 : Dcl) =>
    some (x27.name == ([116, 119, 111] : List UInt8)))
      (some false))
      (some false))
      (some false))
      (some false))
      (some false))
      (some false)) (fun (v12 : Bool) => some v12))) = some r) ?_ ?_
  ·
   refine bindK h0 (fun w1_ h1 h0 => ?_)
   refine XC.region <| rM rfl rfl rfl <| rR rfl rfl rfl (RO.binInt rfl rfl rfl) <| rM rfl rfl rfl ?_
   refine XL.case (d := 46) (c := (x3.2 != 0)) rfl (fun c11 => ?_) (fun c11 => ?_)
   ·
    replace h1 := condT c11 h1
    refine XL.no rfl rfl <| XL.no rfl rfl <| rR rfl rfl rfl (RO.pickT rfl rfl) <| rM rfl rfl rfl <| XL.no rfl rfl <| XL.no rfl rfl <| rR rfl rfl rfl (RO.pickT rfl rfl) <| rM rfl rfl rfl <| XL.no rfl rfl <| XL.no rfl rfl <| rR rfl rfl rfl (RO.pickT rfl rfl) <| rM rfl rfl rfl <| XL.no rfl rfl <| XL.no rfl rfl ?_
    refine rR rfl rfl rfl (RO.pickT rfl rfl) <| rM rfl rfl rfl <| XL.no rfl rfl <| XL.no rfl rfl <| XL.no rfl rfl <| rR rfl rfl rfl (RO.pickT rfl rfl) <| rM rfl rfl rfl <| XL.no rfl rfl <| XL.no rfl rfl <| XL.no rfl rfl <| rR rfl rfl rfl (RO.pickT rfl rfl) <| XL.nil ?_
    have e_ := Option.some.inj h1
    subst e_
    exact XQ.joinR true (stle (tR rfl (tR rfl (tR rfl (tR rfl (tR rfl tZ))))) (hR rfl hZ) (kR rfl (kR rfl kZ)) rfl (Nat.zero_le _) rfl rfl rfl (bF rfl bZ) rfl rfl) h0
   ·
    replace h1 := condF c11 h1
    refine rM rfl rfl rfl <| rR rfl rfl rfl (RO.binInt rfl rfl rfl) <| rR rfl rfl rfl (RO.pickF rfl rfl) <| rM rfl rfl rfl ?_
    refine XL.case (d := 50) (c := (x4.2 != 0)) rfl (fun c12 => ?_) (fun c12 => ?_)
    ·
     replace h1 := condT c12 h1
     refine XL.no rfl rfl <| XL.no rfl rfl <| rR rfl rfl rfl (RO.pickT rfl rfl) <| rM rfl rfl rfl <| XL.no rfl rfl <| XL.no rfl rfl <| rR rfl rfl rfl (RO.pickT rfl rfl) <| rM rfl rfl rfl <| XL.no rfl rfl <| XL.no rfl rfl <| rR rfl rfl rfl (RO.pickT rfl rfl) <| rM rfl rfl rfl <| XL.no rfl rfl <| XL.no rfl rfl ?_
     refine XL.no rfl rfl <| rR rfl rfl rfl (RO.pickT rfl rfl) <| rM rfl rfl rfl <| XL.no rfl rfl <| XL.no rfl rfl <| XL.no rfl rfl <| rR rfl rfl rfl (RO.pickT rfl rfl) <| XL.nil ?_
     have e_ := Option.some.inj h1
     subst e_
     exact XQ.joinR true (stle (tR rfl (tR rfl (tR rfl (tR rfl (tR rfl tZ))))) (hR rfl hZ) (kR rfl (kR rfl kZ)) rfl (Nat.zero_le _) rfl rfl rfl (bF rfl bZ) rfl rfl) h0
    ·
     replace h1 := condF c12 h1
     refine rM rfl rfl rfl <| rR rfl rfl rfl (RO.binInt rfl rfl rfl) <| rR rfl rfl rfl (RO.pickF rfl rfl) <| rM rfl rfl rfl ?_
     refine XL.case (d := 54) (c := (x5.2 != 0)) rfl (fun c13 => ?_) (fun c13 => ?_)
     ·
      replace h1 := condT c13 h1
      refine XL.no rfl rfl <| XL.no rfl rfl <| rR rfl rfl rfl (RO.pickT rfl rfl) <| rM rfl rfl rfl <| XL.no rfl rfl <| XL.no rfl rfl <| rR rfl rfl rfl (RO.pickT rfl rfl) <| rM rfl rfl rfl <| XL.no rfl rfl <| XL.no rfl rfl <| XL.no rfl rfl <| rR rfl rfl rfl (RO.pickT rfl rfl) <| rM rfl rfl rfl <| XL.no rfl rfl ?_
      refine XL.no rfl rfl <| XL.no rfl rfl <| rR rfl rfl rfl (RO.pickT rfl rfl) <| XL.nil ?_
      have e_ := Option.some.inj h1
      subst e_
      exact XQ.joinR true (stle (tR rfl (tR rfl (tR rfl (tR rfl (tR rfl tZ))))) (hR rfl hZ) (kR rfl (kR rfl kZ)) rfl (Nat.zero_le _) rfl rfl rfl (bF rfl bZ) rfl rfl) h0
     ·
      replace h1 := condF c13 h1
      refine rM rfl rfl rfl <| rR rfl rfl rfl (RO.binInt rfl rfl rfl) <| rR rfl rfl rfl (RO.pickF rfl rfl) <| rM rfl rfl rfl ?_
      refine XL.case (d := 58) (c := (x6.2 != 0)) rfl (fun c14 => ?_) (fun c14 => ?_)
      ·
       replace h1 := condT c14 h1
       refine XL.no rfl rfl <| XL.no rfl rfl <| rR rfl rfl rfl (RO.pickT rfl rfl) <| rM rfl rfl rfl <| XL.no rfl rfl <| XL.no rfl rfl <| XL.no rfl rfl <| rR rfl rfl rfl (RO.pickT rfl rfl) <| rM rfl rfl rfl <| XL.no rfl rfl <| XL.no rfl rfl <| XL.no rfl rfl <| rR rfl rfl rfl (RO.pickT rfl rfl) <| XL.nil ?_
       have e_ := Option.some.inj h1
       subst e_
       exact XQ.joinR true (stle (tR rfl (tR rfl (tR rfl (tR rfl (tR rfl tZ))))) (hR rfl hZ) (kR rfl (kR rfl kZ)) rfl (Nat.zero_le _) rfl rfl rfl (bF rfl bZ) rfl rfl) h0
      ·
       replace h1 := condF c14 h1
       refine rM rfl rfl rfl <| rR rfl rfl rfl (RO.binInt rfl rfl rfl) <| rR rfl rfl rfl (RO.pickF rfl rfl) <| rM rfl rfl rfl ?_
       refine XL.case (d := 62) (c := (x9.2 != 22)) rfl (fun c15 => ?_) (fun c15 => ?_)
       ·
        replace h1 := condT c15 h1
        refine XL.no rfl rfl <| XL.no rfl rfl <| XL.no rfl rfl <| rR rfl rfl rfl (RO.pickT rfl rfl) <| rM rfl rfl rfl <| XL.no rfl rfl <| XL.no rfl rfl <| XL.no rfl rfl <| rR rfl rfl rfl (RO.pickT rfl rfl) <| XL.nil ?_
        have e_ := Option.some.inj h1
        subst e_
        exact XQ.joinR true (stle (tR rfl (tR rfl (tR rfl (tR rfl (tR rfl tZ))))) (hR rfl hZ) (kR rfl (kR rfl kZ)) rfl (Nat.zero_le _) rfl rfl rfl (bF rfl bZ) rfl rfl) h0
       ·
        replace h1 := condF c15 h1
        refine rM rfl rfl rfl <| rR rfl rfl rfl (RO.lenE (α := List Int) sl_57 rfl (.d _)) <| rR rfl rfl rfl (RO.binInt rfl rfl rfl) <| rR rfl rfl rfl (RO.pickF rfl rfl) <| rM rfl rfl rfl ?_
        refine XL.case (d := 67) (c := ((x3.1.length : Int) != 3)) rfl (fun c16 => ?_) (fun c16 => ?_)
        ·
         replace h1 := condT c16 h1
         refine XL.no rfl rfl <| XL.no rfl rfl <| XL.no rfl rfl <| rR rfl rfl rfl (RO.pickT rfl rfl) <| XL.nil ?_
         have e_ := Option.some.inj h1
         subst e_
         exact XQ.joinR true (stle (tR rfl (tR rfl (tR rfl (tR rfl (tR rfl tZ))))) (hR rfl hZ) (kR rfl (kR rfl kZ)) rfl (Nat.zero_le _) rfl rfl rfl (bF rfl bZ) rfl rfl) h0
        ·
         replace h1 := condF c16 h1
         refine rM rfl rfl rfl <| rR rfl rfl rfl (RO.lenE (α := Dcl) sl_22 rfl (.d _)) <| rR rfl rfl rfl (RO.binInt rfl rfl rfl) <| rR rfl rfl rfl (RO.pickF rfl rfl) <| XL.nil ?_
         have e_ := Option.some.inj h1
         subst e_
         exact XQ.joinR ((x6.1.length : Int) != 2) (stle (tR rfl (tR rfl (tR rfl (tR rfl (tR rfl tZ))))) (hR rfl hZ) (kR rfl (kR rfl kZ)) rfl (Nat.zero_le _) rfl rfl rfl (bF rfl bZ) rfl rfl) h0
  ·
   intro v10 h0
   refine XQ.seq ?_
   refine XC.cond (b := v10) rfl (fun c17 => ?_) (fun c17 => ?_)
   ·
    replace h0 := condT c17 h0
    refine XC.seq <| XC.region <| rA rfl rfl rfl <| XL.nil <| XQ.seq <| XC.ret ?_
    have e_ := Option.some.inj h0
    subst e_
    exact XQ.retF (fun _ _ h => h) rfl (RAs.tmp rfl .nil) (.cons (.one (.d _)) .nil)
   ·
    replace h0 := condF c17 h0
    refine XC.skip <| XQ.seq <| XC.seq ?_
    refine XC.joinR (fun (v18 : Bool) => ⟨[(0, .v (.one (dB v18)))], [(5, .cells 48 (flatE (([(⟨0, ([112, 108, 117, 115] : List UInt8), 0, (Tm.mk 3 0 ([78, 97, 116] : List UInt8) ([] : List Lvl) ([] : List Tm)), (Tm.mk 0 0 ([] : List UInt8) ([] : List Lvl) ([] : List Tm)), 0, ([] : List Ctr), (⟨0, (Tm.mk 0 0 ([] : List UInt8) ([] : List Lvl) ([] : List Tm)), ([] : List Tm)⟩ : Rcr), ([] : List Fn)⟩ : Dcl), (⟨3, ([78, 97, 116] : List UInt8), 0, (Tm.mk 2 0 ([] : List UInt8) [(⟨0, ([] : List LV)⟩ : Lvl)] ([] : List Tm)), (Tm.mk 3 0 ([116, 119, 111] : List UInt8) [] []), 0, [(⟨([78, 97, 116, 46, 122, 101, 114, 111] : List UInt8), (Tm.mk 3 0 ([78, 97, 116] : List UInt8) ([] : List Lvl) ([] : List Tm))⟩ : Ctr), (⟨([78, 97, 116, 46, 115, 117, 99, 99] : List UInt8), (Tm.mk 3 0 ([78, 97, 116] : List UInt8) ([] : List Lvl) ([] : List Tm))⟩ : Ctr)], (⟨0, (Tm.mk 0 0 ([] : List UInt8) ([] : List Lvl) ([] : List Tm)), ([] : List Tm)⟩ : Rcr), ([] : List Fn)⟩ : Dcl), (⟨1, ([116, 119, 111] : List UInt8), 0, (Tm.mk 3 0 ([78, 97, 116] : List UInt8) ([] : List Lvl) ([] : List Tm)), (Tm.mk 3 0 ([78, 97, 116, 46, 122, 101, 114, 111] : List UInt8) ([] : List Lvl) ([] : List Tm)), 0, ([] : List Ctr), (⟨0, (Tm.mk 0 0 ([] : List UInt8) ([] : List Lvl) ([] : List Tm)), ([] : List Tm)⟩ : Rcr), ([] : List Fn)⟩ : Dcl)]) : List Dcl)))], [(6, some ⟨9, 1, (Enc.encL ([([78, 97, 116] : List UInt8)] : List Bs)).length, []⟩), (7, some ⟨9, 1, (Enc.encL ([([116, 119, 111] : List UInt8)] : List Bs)).length, []⟩), (8, some ⟨3, 1, (Enc.encL ([1] : List Int)).length, []⟩)], 9, 115, []⟩) (fun (v18 : Bool) => (some v18) = some r) ?_ ?_
    ·
     refine bindK h0 (fun w1_ h1 h0 => ?_)
     refine XC.region <| rM rfl rfl rfl ?_
     refine bindK h1 (fun x19 hx19 h1 => ?_)
     refine rR rfl rfl rfl (RO.indexE (α := List Int) sl_57 rfl (.d _) rfl hx19) <| rR rfl rfl rfl (RO.loadPel ag_54 rfl rfl) <| XL.put rfl rfl (lb rfl) (OpOK.lit1E (α := Int) (1) sl_54 z_3 rfl rfl (lb rfl) (lb rfl) rfl rfl (.cons (.d _) .nil) rfl) ?_
     refine bindK h1 (fun x20 hx20 h1 => ?_)
     refine XL.put rfl rfl (lb rfl) (OpOK.callFun (m29_ok x19 ([1]) x20 hx20) rfl (.cons (.one (.d _)) (.cons (.one (.app _ _ _)) .nil))) <| rM rfl rfl rfl ?_
     refine XL.case (d := 77) (c := x20) rfl (fun c21 => ?_) (fun c21 => ?_)
     ·
      replace h1 := condT c21 h1
      refine rM rfl rfl rfl ?_
      refine bindK h1 (fun x22 hx22 h1 => ?_)
      refine rR rfl rfl rfl (RO.indexE (α := List Int) sl_57 rfl (.d _) rfl hx22) <| rR rfl rfl rfl (RO.loadPel ag_54 rfl rfl) <| rR rfl rfl rfl (RO.lenE (α := Int) sl_54 rfl (.d _)) <| rR rfl rfl rfl (RO.binInt rfl rfl rfl) <| rR rfl rfl rfl (RO.pickT rfl rfl) <| rM rfl rfl rfl ?_
      refine XL.case (d := 84) (c := ((x22.length : Int) == 0)) rfl (fun c23 => ?_) (fun c23 => ?_)
      ·
       replace h1 := condT c23 h1
       refine rM rfl rfl rfl ?_
       refine bindK h1 (fun x24 hx24 h1 => ?_)
       refine rR rfl rfl rfl (RO.indexE (α := List Int) sl_57 rfl (.d _) rfl hx24) <| rR rfl rfl rfl (RO.loadPel ag_54 rfl rfl) <| XL.put rfl rfl (lb rfl) (OpOK.lit1E (α := Int) (1) sl_54 z_3 rfl rfl (lb rfl) (lb rfl) rfl rfl (.cons (.d _) .nil) rfl) ?_
       refine bindK h1 (fun x25 hx25 h1 => ?_)
       refine XL.put rfl rfl (lb rfl) (OpOK.callFun (m29_ok x24 ([1]) x25 hx25) rfl (.cons (.one (.d _)) (.cons (.one (.app _ _ _)) .nil))) <| rR rfl rfl rfl (RO.pickT rfl rfl) <| rM rfl rfl rfl ?_
       refine XL.case (d := 91) (c := x25) rfl (fun c26 => ?_) (fun c26 => ?_)
       ·
        replace h1 := condT c26 h1
        refine rM rfl rfl rfl <| XL.put rfl rfl (lb rfl) (OpOK.lit3E (α := Int) 1 0 2 sl_54 z_3 rfl rfl (lb rfl) (lb rfl) rfl rfl rfl rfl (.cons (.d _) (.cons (.d _) (.cons (.d _) .nil))) ⟨rfl, rfl, rfl⟩) ?_
        refine bindK h1 (fun x27 hx27 h1 => ?_)
        refine XL.put rfl rfl (lb rfl) (OpOK.callFun (m29_ok x4.1 ([1, 0, 2]) x27 hx27) rfl (.cons (.one (.d _)) (.cons (.one (.app _ _ _)) .nil))) <| rR rfl rfl rfl (RO.pickT rfl rfl) <| rM rfl rfl rfl ?_
        refine XL.case (d := 96) (c := x27) rfl (fun c28 => ?_) (fun c28 => ?_)
        ·
         replace h1 := condT c28 h1
         refine rM rfl rfl rfl <| XL.put rfl rfl (lb rfl) (OpOK.data6E (α := Bs) ([112, 108, 117, 115] : List UInt8) ([78, 97, 116] : List UInt8) ([78, 97, 116, 46, 122, 101, 114, 111] : List UInt8) ([78, 97, 116, 46, 115, 117, 99, 99] : List UInt8) ([78, 97, 116, 46, 114, 101, 99] : List UInt8) ([116, 119, 111] : List UInt8) sl_23 z_9 rfl rfl (lb rfl) rfl rfl rfl rfl rfl rfl rfl (.cons (.d _) (.cons (.d _) (.cons (.d _) (.cons (.d _) (.cons (.d _) (.cons (.d _) .nil)))))) ⟨rfl, rfl, rfl, rfl, rfl, rfl⟩) ?_
         refine bindK h1 (fun x29 hx29 h1 => ?_)
         refine XL.put rfl rfl (lb rfl) (OpOK.callFun (m14_ok x5.1 ([([112, 108, 117, 115] : List UInt8), ([78, 97, 116] : List UInt8), ([78, 97, 116, 46, 122, 101, 114, 111] : List UInt8), ([78, 97, 116, 46, 115, 117, 99, 99] : List UInt8), ([78, 97, 116, 46, 114, 101, 99] : List UInt8), ([116, 119, 111] : List UInt8)]) x29 hx29) rfl (.cons (.one (.d _)) (.cons (.one (.d _)) .nil))) <| rR rfl rfl rfl (RO.pickT rfl rfl) <| rM rfl rfl rfl ?_
         refine XL.case (d := 101) (c := x29) rfl (fun c30 => ?_) (fun c30 => ?_)
         ·
          replace h1 := condT c30 h1
          refine rM rfl rfl rfl ?_
          refine bindK h1 (fun x31 hx31 h1 => ?_)
          refine rR rfl rfl rfl (RO.indexE (α := Dcl) sl_22 rfl (.d _) rfl hx31) <| rR rfl rfl rfl (RO.fieldPel fo_48_1 rfl) <| rR rfl rfl rfl (RO.loadPel ag_9 rfl rfl) <| rR rfl rfl rfl (RO.eqS rfl rfl) <| rR rfl rfl rfl (RO.pickT rfl rfl) <| rM rfl rfl rfl ?_
          refine XL.case (d := 108) (c := (x31.name == ([78, 97, 116] : List UInt8))) rfl (fun c32 => ?_) (fun c32 => ?_)
          ·
           replace h1 := condT c32 h1
           refine rM rfl rfl rfl ?_
           refine bindK h1 (fun x33 hx33 h1 => ?_)
           refine rR rfl rfl rfl (RO.indexE (α := Dcl) sl_22 rfl (.d _) rfl hx33) <| rR rfl rfl rfl (RO.fieldPel fo_48_1 rfl) <| rR rfl rfl rfl (RO.loadPel ag_9 rfl rfl) <| rR rfl rfl rfl (RO.eqS rfl rfl) <| rR rfl rfl rfl (RO.pickT rfl rfl) <| rA rfl rfl rfl <| XL.nil ?_
           have e_ := Option.some.inj h1
           subst e_
           exact XQ.joinR (x33.name == ([116, 119, 111] : List UInt8)) (stle (tR rfl tZ) (hR rfl hZ) (kR rfl (kR rfl (kR rfl kZ))) rfl (Nat.zero_le _) rfl rfl rfl (bF rfl bZ) rfl rfl) h0
          ·
           replace h1 := condF c32 h1
           refine XL.no rfl rfl <| XL.no rfl rfl <| XL.no rfl rfl <| XL.no rfl rfl <| XL.no rfl rfl <| rR rfl rfl rfl (RO.pickF rfl rfl) <| rA rfl rfl rfl <| XL.nil ?_
           have e_ := Option.some.inj h1
           subst e_
           exact XQ.joinR false (stle (tR rfl tZ) (hR rfl hZ) (kR rfl (kR rfl (kR rfl kZ))) rfl (Nat.zero_le _) rfl rfl rfl (bF rfl bZ) rfl rfl) h0
         ·
          replace h1 := condF c30 h1
          refine XL.no rfl rfl <| XL.no rfl rfl <| XL.no rfl rfl <| XL.no rfl rfl <| XL.no rfl rfl <| rR rfl rfl rfl (RO.pickF rfl rfl) <| rM rfl rfl rfl <| XL.no rfl rfl <| XL.no rfl rfl <| XL.no rfl rfl <| XL.no rfl rfl <| XL.no rfl rfl <| rR rfl rfl rfl (RO.pickF rfl rfl) <| rA rfl rfl rfl ?_
          refine XL.nil ?_
          have e_ := Option.some.inj h1
          subst e_
          exact XQ.joinR false (stle (tR rfl tZ) (hR rfl hZ) (kR rfl (kR rfl (kR rfl kZ))) rfl (Nat.zero_le _) rfl rfl rfl (bF rfl bZ) rfl rfl) h0
        ·
         replace h1 := condF c28 h1
         refine XL.no rfl rfl <| XL.no rfl rfl <| XL.no rfl rfl <| rR rfl rfl rfl (RO.pickF rfl rfl) <| rM rfl rfl rfl <| XL.no rfl rfl <| XL.no rfl rfl <| XL.no rfl rfl <| XL.no rfl rfl <| XL.no rfl rfl <| rR rfl rfl rfl (RO.pickF rfl rfl) <| rM rfl rfl rfl <| XL.no rfl rfl <| XL.no rfl rfl ?_
         refine XL.no rfl rfl <| XL.no rfl rfl <| XL.no rfl rfl <| rR rfl rfl rfl (RO.pickF rfl rfl) <| rA rfl rfl rfl <| XL.nil ?_
         have e_ := Option.some.inj h1
         subst e_
         exact XQ.joinR false (stle (tR rfl tZ) (hR rfl hZ) (kR rfl (kR rfl (kR rfl kZ))) rfl (Nat.zero_le _) rfl rfl rfl (bF rfl bZ) rfl rfl) h0
       ·
        replace h1 := condF c26 h1
        refine XL.no rfl rfl <| XL.no rfl rfl <| XL.no rfl rfl <| rR rfl rfl rfl (RO.pickF rfl rfl) <| rM rfl rfl rfl <| XL.no rfl rfl <| XL.no rfl rfl <| XL.no rfl rfl <| rR rfl rfl rfl (RO.pickF rfl rfl) <| rM rfl rfl rfl <| XL.no rfl rfl <| XL.no rfl rfl <| XL.no rfl rfl <| XL.no rfl rfl ?_
        refine XL.no rfl rfl <| rR rfl rfl rfl (RO.pickF rfl rfl) <| rM rfl rfl rfl <| XL.no rfl rfl <| XL.no rfl rfl <| XL.no rfl rfl <| XL.no rfl rfl <| XL.no rfl rfl <| rR rfl rfl rfl (RO.pickF rfl rfl) <| rA rfl rfl rfl <| XL.nil ?_
        have e_ := Option.some.inj h1
        subst e_
        exact XQ.joinR false (stle (tR rfl tZ) (hR rfl hZ) (kR rfl (kR rfl (kR rfl kZ))) rfl (Nat.zero_le _) rfl rfl rfl (bF rfl bZ) rfl rfl) h0
      ·
       replace h1 := condF c23 h1
       refine XL.no rfl rfl <| XL.no rfl rfl <| XL.no rfl rfl <| XL.no rfl rfl <| XL.no rfl rfl <| rR rfl rfl rfl (RO.pickF rfl rfl) <| rM rfl rfl rfl <| XL.no rfl rfl <| XL.no rfl rfl <| XL.no rfl rfl <| rR rfl rfl rfl (RO.pickF rfl rfl) <| rM rfl rfl rfl <| XL.no rfl rfl <| XL.no rfl rfl ?_
       refine XL.no rfl rfl <| rR rfl rfl rfl (RO.pickF rfl rfl) <| rM rfl rfl rfl <| XL.no rfl rfl <| XL.no rfl rfl <| XL.no rfl rfl <| XL.no rfl rfl <| XL.no rfl rfl <| rR rfl rfl rfl (RO.pickF rfl rfl) <| rM rfl rfl rfl <| XL.no rfl rfl <| XL.no rfl rfl <| XL.no rfl rfl <| XL.no rfl rfl ?_
       refine XL.no rfl rfl <| rR rfl rfl rfl (RO.pickF rfl rfl) <| rA rfl rfl rfl <| XL.nil ?_
       have e_ := Option.some.inj h1
       subst e_
       exact XQ.joinR false (stle (tR rfl tZ) (hR rfl hZ) (kR rfl (kR rfl (kR rfl kZ))) rfl (Nat.zero_le _) rfl rfl rfl (bF rfl bZ) rfl rfl) h0
     ·
      replace h1 := condF c21 h1
      refine XL.no rfl rfl <| XL.no rfl rfl <| XL.no rfl rfl <| XL.no rfl rfl <| XL.no rfl rfl <| rR rfl rfl rfl (RO.pickF rfl rfl) <| rM rfl rfl rfl <| XL.no rfl rfl <| XL.no rfl rfl <| XL.no rfl rfl <| XL.no rfl rfl <| XL.no rfl rfl <| rR rfl rfl rfl (RO.pickF rfl rfl) <| rM rfl rfl rfl ?_
      refine XL.no rfl rfl <| XL.no rfl rfl <| XL.no rfl rfl <| rR rfl rfl rfl (RO.pickF rfl rfl) <| rM rfl rfl rfl <| XL.no rfl rfl <| XL.no rfl rfl <| XL.no rfl rfl <| rR rfl rfl rfl (RO.pickF rfl rfl) <| rM rfl rfl rfl <| XL.no rfl rfl <| XL.no rfl rfl <| XL.no rfl rfl <| XL.no rfl rfl ?_
      refine XL.no rfl rfl <| rR rfl rfl rfl (RO.pickF rfl rfl) <| rM rfl rfl rfl <| XL.no rfl rfl <| XL.no rfl rfl <| XL.no rfl rfl <| XL.no rfl rfl <| XL.no rfl rfl <| rR rfl rfl rfl (RO.pickF rfl rfl) <| rA rfl rfl rfl <| XL.nil ?_
      have e_ := Option.some.inj h1
      subst e_
      exact XQ.joinR false (stle (tR rfl tZ) (hR rfl hZ) (kR rfl (kR rfl (kR rfl kZ))) rfl (Nat.zero_le _) rfl rfl rfl (bF rfl bZ) rfl rfl) h0
    ·
     intro v18 h0
     refine XQ.seq <| XC.ret ?_
     have e_ := Option.some.inj h0
     subst e_
     exact XQ.retF (fun _ _ h => h) rfl (RAs.tmp rfl .nil) (.cons (.one (.d _)) .nil)
theorem m11_true : m11 = some true := by kernel_rfl
end Go.Proofs.Ytijcchddnnnmdaa
namespace Go.Proofs.Ytijcchddnnnmdaa
open Go.RowKit Go.Shelf
set_option linter.unusedSimpArgs false
set_option linter.unusedVariables false
theorem en_8 : Enters Try.prog 8 := enters_of Try.func8 (by kernel_rfl) rfl
theorem en_27 : Enters Try.prog 27 := enters_of Try.func27 (by kernel_rfl) rfl
theorem en_28 : Enters Try.prog 28 := enters_of Try.func28 (by kernel_rfl) rfl
def m8_l0 (x4 : (List (List Int)) × Int) (x5 : (List (List Int)) × Int) (s3 : Int) : Option (LO Int (Unit ⊕ Bool)) :=
  cond (decide (s3 < (x4.1.length : Int)))
    (Option.bind (idx x4.1 s3) fun (x15 : List Int) =>
  Option.bind (idx x5.1 s3) fun (x16 : List Int) =>
  Option.bind (Option.bind (m29 x15 x16) fun (x19 : Bool) =>
  some x19) (fun (y17 : Bool) => cond (!y17)
    (some (.done (.inr false)))
    (some (.next (w64 (s3 + 1))))))
    (some (.done (.inl ())))
def m8 (a0 : List Dcl) : Option Bool :=
  Option.bind (m9 a0) fun (x1 : Bool) =>
  cond (!x1)
    (Option.bind (m11 ) fun (x3 : Bool) =>
  some x3)
    (Option.bind (m23 a0) fun (x4 : (List (List Int)) × Int) =>
  Option.bind (m25 a0) fun (x5 : (List (List Int)) × Int) =>
  Option.bind (m22 a0) fun (x6 : (List Int) × Int) =>
  Option.bind (m26 a0) fun (x7 : (List Int) × Int) =>
  Option.bind (cond (x4.2 == x5.2)
    (Option.bind (cond ((x4.1.length : Int) != (x5.1.length : Int))
    (some false)
    (Option.bind (loopN (m8_l0 x4 x5) FUEL 0) (Sum.elim (fun (o13 : Unit) => some true) (fun o => some o)))) (fun (y10 : Bool) => cond y10
    (cond (x6.2 == x7.2)
    (Option.bind (m29 x6.1 x7.1) fun (x24 : Bool) =>
  cond x24
    (Option.bind (m11 ) fun (x26 : Bool) =>
  some x26)
    (some false))
    (some false))
    (some false)))
    (some false)) (fun (v8 : Bool) => some v8))
set_option maxRecDepth 100000 in
set_option maxHeartbeats 2000000 in
theorem m8_ok (a0 : List Dcl) (r : Bool) (h0 : m8 a0 = some r) : Fun Try.prog 8 [.one (dS a0)] (resOf [.one (dB r)]) := by
  unfold m8 at h0
  refine Fun.of_bodyM 9 56 Try.func8 rfl en_8 rfl (lb rfl) (fun S w => ?_)
  simp only [entry]
  refine XC.seq <| XC.region <| rA rfl rfl rfl <| XL.nil <| XQ.seq <| XC.seq <| XC.seq <| XC.region <| rM rfl rfl rfl ?_
  refine bindK h0 (fun x1 hx1 h0 => ?_)
  refine XL.put rfl rfl (lb rfl) (OpOK.callFun (m9_ok a0 x1 hx1) rfl (.cons (.one (.d _)) .nil)) <| rR rfl rfl rfl (RO.not rfl) <| XL.nil <| XQ.seq ?_
  refine XC.cond (b := (!x1)) rfl (fun c2 => ?_) (fun c2 => ?_)
  ·
   replace h0 := condT c2 h0
   refine XC.seq <| XC.region ?_
   refine bindK h0 (fun x3 hx3 h0 => ?_)
   refine XL.put rfl rfl (lb rfl) (OpOK.callFun (m11_ok  x3 hx3) rfl .nil) <| rA rfl rfl rfl <| XL.nil <| XQ.seq <| XC.ret ?_
   have e_ := Option.some.inj h0
   subst e_
   exact XQ.retF (fun _ _ h => h) rfl (RAs.tmp rfl .nil) (.cons (.one (.d _)) .nil)
  ·
   replace h0 := condF c2 h0
   refine XC.skip <| XQ.seq <| XC.seq <| XC.region <| rM rfl rfl rfl ?_
   refine bindK h0 (fun x4 hx4 h0 => ?_)
   refine XL.put rfl rfl (lb rfl) (OpOK.callFun (m23_ok a0 x4 hx4) rfl (.cons (.one (.d _)) .nil)) <| rM rfl rfl rfl <| rR rfl rfl rfl (RO.extract rfl rfl) <| rR rfl rfl rfl (RO.extract rfl rfl) <| rA rfl rfl rfl <| rA rfl rfl rfl <| XL.nil <| XQ.seq <| XC.seq <| XC.region <| rM rfl rfl rfl ?_
   refine bindK h0 (fun x5 hx5 h0 => ?_)
   refine XL.put rfl rfl (lb rfl) (OpOK.callFun (m25_ok a0 x5 hx5) rfl (.cons (.one (.d _)) .nil)) <| rM rfl rfl rfl <| rR rfl rfl rfl (RO.extract rfl rfl) <| rR rfl rfl rfl (RO.extract rfl rfl) <| rA rfl rfl rfl <| rA rfl rfl rfl <| XL.nil <| XQ.seq <| XC.seq <| XC.region <| rM rfl rfl rfl ?_
   refine bindK h0 (fun x6 hx6 h0 => ?_)
   refine XL.put rfl rfl (lb rfl) (OpOK.callFun (m22_ok a0 x6 hx6) rfl (.cons (.one (.d _)) .nil)) <| rM rfl rfl rfl <| rR rfl rfl rfl (RO.extract rfl rfl) <| rR rfl rfl rfl (RO.extract rfl rfl) <| rA rfl rfl rfl <| rA rfl rfl rfl <| XL.nil <| XQ.seq <| XC.seq <| XC.region <| rM rfl rfl rfl ?_
   refine bindK h0 (fun x7 hx7 h0 => ?_)
   refine XL.put rfl rfl (lb rfl) (OpOK.callFun (m26_ok a0 x7 hx7) rfl (.cons (.one (.d _)) .nil)) <| rM rfl rfl rfl <| rR rfl rfl rfl (RO.extract rfl rfl) <| rR rfl rfl rfl (RO.extract rfl rfl) <| rA rfl rfl rfl <| rA rfl rfl rfl <| XL.nil <| XQ.seq <| XC.seq ?_
   refine XC.joinR (fun (v8 : Bool) => ⟨[(2, .v (.one (dB v8)))], [], [], 0, 56, []⟩) (fun (v8 : Bool) => (some v8) = some r) ?_ ?_
   ·
    refine bindK h0 (fun w1_ h1 h0 => ?_)
    refine XC.region <| rM rfl rfl rfl <| rM rfl rfl rfl <| rR rfl rfl rfl (RO.binInt rfl rfl rfl) <| rM rfl rfl rfl ?_
    refine XL.case (d := 38) (c := (x4.2 == x5.2)) rfl (fun c9 => ?_) (fun c9 => ?_)
    ·
     replace h1 := condT c9 h1
     refine rM rfl rfl rfl <| rM rfl rfl rfl ?_
     refine bindK h1 (fun y10 h2 h1 => ?_)
     have hc11 : CallM Try.prog 27 [.one (dS x4.1), .one (dS x5.1), .one (.fn 28 [])] ⟨[], [], 0⟩ (resOf [.one (dB y10)]) ⟨[], [], 0⟩ := by
      refine CallM.of_bodyD ⟨[(6, .v (.one (dB y10)))], [], [], 0, 32, []⟩ rfl rfl en_27 (lb rfl) rfl (RAs.tmp rfl .nil) (fun w0 M V0 Q hv2 hQ2 => ?_)
      simp only [entry]
      refine XC.seq <| XC.region <| rA rfl rfl rfl <| XL.nil <| XQ.seq <| XC.seq <| XC.seq <| XC.region <| rM rfl rfl rfl <| rR rfl rfl rfl (RO.lenE (α := List Int) sl_57 rfl (.d _)) <| rM rfl rfl rfl <| rR rfl rfl rfl (RO.lenE (α := List Int) sl_57 rfl (.d _)) <| rR rfl rfl rfl (RO.binInt rfl rfl rfl) <| XL.nil ?_
      refine XQ.seq ?_
      refine XC.cond (b := ((x4.1.length : Int) != (x5.1.length : Int))) rfl (fun c12 => ?_) (fun c12 => ?_)
      ·
       replace h2 := condT c12 h2
       refine XC.seq <| XC.region <| rA rfl rfl rfl <| XL.nil <| XQ.seq <| XC.ret ?_
       have e_ := Option.some.inj h2
       subst e_
       exact hQ2 _ _ _ (.inr rfl) rfl (stle (tR rfl tZ) hZ kZ rfl (Nat.le_trans hv2 (lb rfl)) rfl rfl rfl bZ rfl rfl)
      ·
       replace h2 := condF c12 h2
       refine XC.skip <| XQ.seq <| XC.seq <| XC.seq <| XC.region <| rM rfl rfl rfl <| rR rfl rfl rfl (RO.lenE (α := List Int) sl_57 rfl (.d _)) <| rM rfl rfl rfl <| XL.nil <| XQ.seq <| XC.block ?_
       refine XC.joinX 0 (fun (o13 : Unit) => ⟨[], [], [], 0, 32, []⟩) (fun (o13 : Unit) => (some true) = some y10) ?_ ?_
       ·
        refine bindK h2 (fun o14 hl3 h2 => ?_)
        refine XC.loopM (m8_l0 x4 x5) (fun s3 => ⟨[(1, .v (.one (dS x5.1))), (2, .v (.one (.fn 28 []))), (15, .v (.one (dS x4.1))), (16, .v (.one (dI (x4.1.length : Int)))), (17, .v (.one (dI s3)))], [], [], 0, 32, []⟩) 0 o14 (stle (tR rfl (tR rfl (tR rfl (tR rfl (tR rfl tZ))))) hZ kZ rfl (Nat.le_trans hv2 (lb rfl)) rfl rfl rfl bZ rfl rfl) hl3 (fun s3 n3 oo3 h3 ho3 => ?_)
        unfold m8_l0 at h3
        refine XC.seq <| XC.region <| rR rfl rfl rfl (RO.binInt rfl rfl rfl) <| XL.nil <| XQ.seq <| XC.seq ?_
        refine XC.cond (b := (decide (s3 < (x4.1.length : Int)))) rfl (fun c15 => ?_) (fun c15 => ?_)
        ·
         replace h3 := condT c15 h3
         refine XC.skip <| XQ.seq <| XC.seq <| XC.block <| XC.seq <| XC.region <| rM rfl rfl rfl ?_
         refine bindK h3 (fun x16 hx16 h3 => ?_)
         refine rR rfl rfl rfl (RO.indexE (α := List Int) sl_57 rfl (.d _) rfl hx16) <| rR rfl rfl rfl (RO.loadPel ag_54 rfl rfl) <| rA rfl rfl rfl <| rA rfl rfl rfl <| XL.nil <| XQ.seq <| XC.seq <| XC.region <| rM rfl rfl rfl <| rM rfl rfl rfl ?_
         refine bindK h3 (fun x17 hx17 h3 => ?_)
         refine rR rfl rfl rfl (RO.indexE (α := List Int) sl_57 rfl (.d _) rfl hx17) <| rR rfl rfl rfl (RO.loadPel ag_54 rfl rfl) <| rA rfl rfl rfl <| XL.nil <| XQ.seq <| XC.seq <| XC.region <| rM rfl rfl rfl <| rM rfl rfl rfl <| rM rfl rfl rfl ?_
         refine bindK h3 (fun y18 h4 h3 => ?_)
         have hc19 : CallM Try.prog 28 [.one (dS x16), .one (dS x17)] ⟨[], [], 0⟩ (resOf [.one (dB y18)]) ⟨[], [], 0⟩ := by
          refine CallM.of_bodyD ⟨[(4, .v (.one (dB y18)))], [], [], 0, 8, []⟩ rfl rfl en_28 (lb rfl) rfl (RAs.tmp rfl .nil) (fun w0 M V0 Q hv4 hQ4 => ?_)
          simp only [entry]
          refine XC.seq <| XC.region <| rA rfl rfl rfl <| XL.nil <| XQ.seq <| XC.seq <| XC.region <| rM rfl rfl rfl <| rM rfl rfl rfl ?_
          refine bindK h4 (fun x20 hx20 h4 => ?_)
          refine XL.put rfl rfl (lb rfl) (OpOK.callFun (m29_ok x16 x17 x20 hx20) rfl (.cons (.one (.d _)) (.cons (.one (.d _)) .nil))) <| rA rfl rfl rfl <| XL.nil <| XQ.seq <| XC.ret ?_
          have e_ := Option.some.inj h4
          subst e_
          exact hQ4 _ _ _ (.inr rfl) rfl (stle (tR rfl tZ) hZ kZ rfl (Nat.le_trans hv4 (lb rfl)) rfl rfl rfl bZ rfl rfl)
         refine XL.put rfl rfl (lb rfl) (OpOK.callW rfl rfl rfl hc19 rfl hZ kZ) <| rR rfl rfl rfl (RO.not rfl) <| XL.nil <| XQ.seq ?_
         refine XC.cond (b := (!y18)) rfl (fun c21 => ?_) (fun c21 => ?_)
         ·
          replace h3 := condT c21 h3
          refine XC.seq <| XC.region <| rA rfl rfl rfl <| XL.nil <| XQ.seq <| XC.ret ?_
          have e_ := Option.some.inj h3
          subst e_
          have e_ : _ = _ := ho3
          subst e_
          try dsimp only [Sum.elim_inl, Sum.elim_inr] at h2
          have e_ := Option.some.inj h2
          subst e_
          exact hQ2 _ _ _ (.inr rfl) rfl (stle (tR rfl tZ) hZ kZ rfl (Nat.le_trans hv2 (lb rfl)) rfl rfl rfl bZ rfl rfl)
         ·
          replace h3 := condF c21 h3
          refine XC.skip <| XQ.inBlock <| XQ.seq <| XC.region <| rR rfl rfl rfl (RO.binInt rfl rfl rfl) <| rM rfl rfl rfl <| XL.nil ?_
          have e_ := Option.some.inj h3
          subst e_
          refine XQ.nextM (w64 (s3 + 1)) (stle (tR rfl (tR rfl (tR rfl (tR rfl (tR rfl tZ))))) hZ kZ rfl (Nat.le_trans hv2 (lb rfl)) rfl rfl rfl bZ rfl rfl) ho3
        ·
         replace h3 := condF c15 h3
         refine XC.exit <| XQ.thenE <| XQ.thenE ?_
         have e_ := Option.some.inj h3
         subst e_
         have e_ : _ = _ := ho3
         subst e_
         exact XQ.joinX () (stle tZ hZ kZ rfl (Nat.le_trans hv2 (lb rfl)) rfl rfl rfl bZ rfl rfl) h2
       ·
        intro o13 h2
        refine XQ.blockX <| XQ.seq <| XC.seq <| XC.region <| rA rfl rfl rfl <| XL.nil <| XQ.seq <| XC.ret ?_
        have e_ := Option.some.inj h2
        subst e_
        exact hQ2 _ _ _ (.inr rfl) rfl (stle (tR rfl tZ) hZ kZ rfl (Nat.le_trans hv2 (lb rfl)) rfl rfl rfl bZ rfl rfl)
     refine XL.put rfl rfl (lb rfl) (OpOK.callW rfl rfl rfl hc11 rfl hZ kZ) <| rR rfl rfl rfl (RO.pickT rfl rfl) <| rM rfl rfl rfl ?_
     refine XL.case (d := 43) (c := y10) rfl (fun c22 => ?_) (fun c22 => ?_)
     ·
      replace h1 := condT c22 h1
      refine rM rfl rfl rfl <| rM rfl rfl rfl <| rR rfl rfl rfl (RO.binInt rfl rfl rfl) <| rR rfl rfl rfl (RO.pickT rfl rfl) <| rM rfl rfl rfl ?_
      refine XL.case (d := 48) (c := (x6.2 == x7.2)) rfl (fun c23 => ?_) (fun c23 => ?_)
      ·
       replace h1 := condT c23 h1
       refine rM rfl rfl rfl <| rM rfl rfl rfl ?_
       refine bindK h1 (fun x24 hx24 h1 => ?_)
       refine XL.put rfl rfl (lb rfl) (OpOK.callFun (m29_ok x6.1 x7.1 x24 hx24) rfl (.cons (.one (.d _)) (.cons (.one (.d _)) .nil))) <| rR rfl rfl rfl (RO.pickT rfl rfl) <| rM rfl rfl rfl ?_
       refine XL.case (d := 53) (c := x24) rfl (fun c25 => ?_) (fun c25 => ?_)
       ·
        replace h1 := condT c25 h1
        refine bindK h1 (fun x26 hx26 h1 => ?_)
        refine XL.put rfl rfl (lb rfl) (OpOK.callFun (m11_ok  x26 hx26) rfl .nil) <| rR rfl rfl rfl (RO.pickT rfl rfl) <| rA rfl rfl rfl <| XL.nil ?_
        have e_ := Option.some.inj h1
        subst e_
        exact XQ.joinR x26 (stle (tR rfl tZ) hZ kZ rfl (Nat.zero_le _) rfl rfl rfl bZ rfl rfl) h0
       ·
        replace h1 := condF c25 h1
        refine XL.no rfl rfl <| rR rfl rfl rfl (RO.pickF rfl rfl) <| rA rfl rfl rfl <| XL.nil ?_
        have e_ := Option.some.inj h1
        subst e_
        exact XQ.joinR false (stle (tR rfl tZ) hZ kZ rfl (Nat.zero_le _) rfl rfl rfl bZ rfl rfl) h0
      ·
       replace h1 := condF c23 h1
       refine XL.no rfl rfl <| XL.no rfl rfl <| XL.no rfl rfl <| rR rfl rfl rfl (RO.pickF rfl rfl) <| rM rfl rfl rfl <| XL.no rfl rfl <| rR rfl rfl rfl (RO.pickF rfl rfl) <| rA rfl rfl rfl <| XL.nil ?_
       have e_ := Option.some.inj h1
       subst e_
       exact XQ.joinR false (stle (tR rfl tZ) hZ kZ rfl (Nat.zero_le _) rfl rfl rfl bZ rfl rfl) h0
     ·
      replace h1 := condF c22 h1
      refine XL.no rfl rfl <| XL.no rfl rfl <| XL.no rfl rfl <| rR rfl rfl rfl (RO.pickF rfl rfl) <| rM rfl rfl rfl <| XL.no rfl rfl <| XL.no rfl rfl <| XL.no rfl rfl <| rR rfl rfl rfl (RO.pickF rfl rfl) <| rM rfl rfl rfl <| XL.no rfl rfl <| rR rfl rfl rfl (RO.pickF rfl rfl) <| rA rfl rfl rfl <| XL.nil ?_
      have e_ := Option.some.inj h1
      subst e_
      exact XQ.joinR false (stle (tR rfl tZ) hZ kZ rfl (Nat.zero_le _) rfl rfl rfl bZ rfl rfl) h0
    ·
     replace h1 := condF c9 h1
     refine XL.no rfl rfl <| XL.no rfl rfl <| XL.no rfl rfl <| rR rfl rfl rfl (RO.pickF rfl rfl) <| rM rfl rfl rfl <| XL.no rfl rfl <| XL.no rfl rfl <| XL.no rfl rfl <| rR rfl rfl rfl (RO.pickF rfl rfl) <| rM rfl rfl rfl <| XL.no rfl rfl <| XL.no rfl rfl <| XL.no rfl rfl <| rR rfl rfl rfl (RO.pickF rfl rfl) ?_
     refine rM rfl rfl rfl <| XL.no rfl rfl <| rR rfl rfl rfl (RO.pickF rfl rfl) <| rA rfl rfl rfl <| XL.nil ?_
     have e_ := Option.some.inj h1
     subst e_
     exact XQ.joinR false (stle (tR rfl tZ) hZ kZ rfl (Nat.zero_le _) rfl rfl rfl bZ rfl rfl) h0
   ·
    intro v8 h0
    refine XQ.seq <| XC.ret ?_
    have e_ := Option.some.inj h0
    subst e_
    exact XQ.retF (fun _ _ h => h) rfl (RAs.tmp rfl .nil) (.cons (.one (.d _)) .nil)
end Go.Proofs.Ytijcchddnnnmdaa
namespace Go.Proofs.Ytijcchddnnnmdaa
open Go.RowKit Go.Lib
set_option linter.unusedSimpArgs false
set_option linter.unusedVariables false
set_option linter.unusedSectionVars false
theorem Says.small {env : List Dcl} {r : List (List Int) × Int} (h : Says env r) : r.1.length ≤ env.length ∧ ∀ l ∈ r.1, l.length ≤ env.length := by
  cases h with
  | twice => exact ⟨Nat.zero_le _, fun l hl => by cases hl⟩
  | none => exact ⟨Nat.zero_le _, fun l hl => by cases hl⟩
  | ok h h2 =>
    have hg := graph_gr h2
    exact ⟨Nat.le_of_eq hg.1, fun l hl => (hg.2 l hl).1⟩
theorem orderG_len (g : List (List Int)) : ∀ (k : Nat) (out o : List Int), orderG g k out = .inl o → o.length = out.length + k
  | 0, out, o, h => by cases h; rfl
  | k + 1, out, o, h => by
    simp only [orderG] at h
    split at h
    · cases h
    · have := orderG_len g k _ o h
      rw [this]; simp; omega
theorem OSays.small {env : List Dcl} {r : List Int × Int} (h : OSays env r) : r.1.length ≤ env.length := by
  cases h with
  | twice => exact Nat.zero_le _
  | none => exact Nat.zero_le _
  | loop => exact Nat.zero_le _
  | ok h h2 o h3 =>
    have := orderG_len _ _ _ _ h3
    simp only [List.length_nil] at this
    show o.length ≤ _
    omega
theorem m8_true (env : List Dcl) (h : envSz env ≤ 100000000) : m8 env = some true := by
  have hel := env_len env
  unfold m8
  obtain ⟨b, hb, -⟩ := m9_some env (by omega)
  rw [hb, m11_true]
  cases b with
  | false => rfl
  | true =>
    obtain ⟨r1, e1, h1⟩ := m23_eq env h
    obtain ⟨r2, e2, h2⟩ := m25_eq env h
    obtain ⟨o1, e3, h3⟩ := m22_eq env h
    obtain ⟨o2, e4, h4⟩ := m26_eq env h
    obtain rfl := h1.uniq h2
    obtain rfl := h3.uniq h4
    obtain ⟨s1, s2⟩ := h1.small
    have s3 := h3.small
    have hl : loopN (m8_l0 r1 r1) FUEL 0 = some (.inl ()) := by
      obtain ⟨r, e, rfl⟩ := loop_all (step := m8_l0 r1 r1) r1.1 (fun i (s : Unit) => i) (fun _ _ => True) (fun r => r = .inl ()) (by omega)
        (fun a x c s e _ => .inr ⟨(), by
          have hx := s2 x (by rw [e]; simp)
          unfold m8_l0
          rw [e, lt_mid, idx_mid]
          simp only [cond_true, Option.bind_some]
          rw [m29_self x (by omega)]; rfl, trivial⟩) (fun s _ => ⟨_, by unfold m8_l0; rw [lt_end]; rfl, rfl⟩) () trivial
      exact e
    rw [e1, e2, e3, e4]
    simp only [Option.bind_some, Bool.not_true, cond_false]
    rw [hl, m29_self o1.1 (by omega)]
    simp [beqI]
end Go.Proofs.Ytijcchddnnnmdaa
namespace Go.Proofs.Ytijcchddnnnmdaa
open Go.RowKit Go.ChangeShapes Go.WideShapes
set_option linter.unusedSimpArgs false
set_option linter.unusedVariables false
set_option linter.unusedSectionVars false
def allS (w : World) : Nat → Nat → Prop := fun b _ => b < w.heap.size
def RC (w : World) (e : List C) (cs : List Value) : Prop := cs.length = e.length ∧ ∀ (j : Nat) (c : C), e[j]? = some c → ∃ u, cs[j]? = some u ∧ Reads (allS w) w c u
theorem RC.app {w : World} {e0 e1 : List C} {cs : List Value} (h0 : RC w e0 (cs.take e0.length)) (h1 : RC w e1 (cs.drop e0.length)) (hl : cs.length = e0.length + e1.length) : RC w (e0 ++ e1) cs := by
  refine ⟨by rw [hl, List.length_append], fun j c hj => ?_⟩
  rcases Nat.lt_or_ge j e0.length with h | h
  · rw [List.getElem?_append_left h] at hj
    obtain ⟨u, h2, h3⟩ := h0.2 j c hj
    rw [List.getElem?_take, if_pos h] at h2
    exact ⟨u, h2, h3⟩
  · rw [List.getElem?_append_right h] at hj
    obtain ⟨u, h2, h3⟩ := h1.2 _ c hj
    rw [List.getElem?_drop, show e0.length + (j - e0.length) = j by omega] at h2
    exact ⟨u, h2, h3⟩
section
variable {H : Type} (enc : TypeId × Value → H) (P : Program) (w : World)
end
section
variable {H : Type} {enc : TypeId × Value → H} {P : Program} {w : World}
end
end Go.Proofs.Ytijcchddnnnmdaa
namespace Go.Proofs.Ytijcchddnnnmdaa
open Go.RowKit Go.ChangeShapes Go.WideShapes
set_option linter.unusedSimpArgs false
set_option linter.unusedVariables false
set_option linter.unusedSectionVars false
theorem bulk_pos {H : Type} (d : DataW H) : 1 ≤ Rows.uptoBulk d := by
  cases d with
  | lit l => cases l <;> simp [Rows.uptoBulk]
  | nil => simp [Rows.uptoBulk]
  | ptr d => simp [Rows.uptoBulk]
  | slice elems spare => simp [Rows.uptoBulk]
  | agg parts => simp [Rows.uptoBulk]
  | iface t d => simp [Rows.uptoBulk]
  | map entries => simp [Rows.uptoBulk]
  | held h => simp [Rows.uptoBulk]
theorem bulk_all {H : Type} : ∀ l : List (DataW H), Rows.uptoBulkAll l = (l.map Rows.uptoBulk).sum
  | [] => by simp [Rows.uptoBulkAll]
  | x :: l => by simp only [Rows.uptoBulkAll, List.map_cons, List.sum_cons, bulk_all l]
theorem RC.nil {w : World} {cs : List Value} : RC w [] (cs.take 0) := ⟨by simp, fun j c h => by cases h⟩
theorem RC.snoc {w : World} {e0 e1 : List C} {cs : List Value} {m k : Nat} (h0 : RC w e0 (cs.take m)) (h1 : RC w e1 ((cs.drop m).take k)) (hm : e0.length = m) : RC w (e0 ++ e1) (cs.take (m + k)) := by
  have h2 := h0.1
  have h3 := h1.1
  refine RC.app ?_ ?_ ?_
  · rw [List.take_take, hm, Nat.min_eq_left (by omega)]; exact h0
  · rw [hm, List.drop_take, Nat.add_sub_cancel_left]; exact h1
  · rw [← h3, hm]
    simp only [List.length_take, List.length_drop] at h2 ⊢
    omega
section
variable {H : Type} (enc : TypeId × Value → H) (P : Program) (w : World)
def OpensZ (N : Nat) (t : TypeId) (α : Type) [Enc α] (μ : α → Nat) : Prop := ∀ (fuel : Nat) (cs : List Value) (x : DataW H × List MemPlace), DataW.trod enc P w 0 (fun _ => true) true fuel t cs = some x → Rows.uptoBulk x.1 ≤ N → ∃ v : α, RC w (Enc.enc v) cs ∧ μ v ≤ Rows.uptoBulk x.1
end
section
variable {H : Type} {enc : TypeId × Value → H} {P : Program} {w : World} {N : Nat}
theorem z_int {t : TypeId} (ht : P.underlying t = some (.int .i64)) : OpensZ enc P w N t Int (fun _ => 1) := by
  intro fuel cs x h hb
  obtain ⟨n, rfl, rfl, -⟩ := DataW.trod_int ht h
  refine ⟨n, ⟨rfl, fun j c hj => ?_⟩, bulk_pos _⟩
  cases j with
  | zero => cases hj; exact ⟨_, rfl, Reads.v _ rfl⟩
  | succ j => cases hj
theorem z_bool {t : TypeId} (ht : P.underlying t = some .bool) : OpensZ enc P w N t Bool (fun _ => 1) := by
  intro fuel cs x h hb
  obtain ⟨n, rfl, rfl⟩ := DataW.trod_bool ht h
  refine ⟨n, ⟨rfl, fun j c hj => ?_⟩, bulk_pos _⟩
  cases j with
  | zero => cases hj; exact ⟨_, rfl, Reads.v _ rfl⟩
  | succ j => cases hj
theorem z_str {t : TypeId} (ht : P.underlying t = some .string) : OpensZ enc P w N t Bs (fun s => 1 + s.length) := by
  intro fuel cs x h hb
  obtain ⟨s, rfl, rfl, -⟩ := DataW.trod_string ht h
  refine ⟨s.data.toList, ⟨rfl, fun j c hj => ?_⟩, by simp [Rows.uptoBulk]; omega⟩
  cases j with
  | zero => cases hj; exact ⟨_, rfl, by rw [show sB s.data.toList = s from rfl]; exact Reads.v _ rfl⟩
  | succ j => cases hj
theorem z_slice {α : Type} [Enc α] [EncLen α] {μ : α → Nat} {t e : TypeId} (ht : P.underlying t = some (.slice e)) (hc : P.cellsOf e = Enc.sz α) (ho : OpensZ enc P w N e α μ) : OpensZ enc P w N t (List α) (fun l => 1 + (l.map μ).sum) := by
  intro fuel cs x h hb
  rcases Deep.open_slice ht h with ⟨rfl, rfl⟩ | ⟨a, len, cap, m, n, D, Pl, rfl, -, hlc, -, hm, rfl, hel⟩
  · refine ⟨[], ⟨rfl, fun j c hj => ?_⟩, by simp [Rows.uptoBulk]⟩
    cases j with
    | zero =>
      cases hj
      refine ⟨_, rfl, ?_⟩
      rw [Enc.nil]
      exact .sl _ [] none 0 0 0 (fun _ _ => undef) (Nat.le_refl _) (fun h => absurd rfl h) (fun i e h => by simp at h) (fun i e j c h => by simp at h) (fun i e j c h => by simp at h) (fun i e j c h => by simp at h)
    | succ j => cases hj
  · have hm' : m = cap := by rw [hm]; rfl
    have hbk : ((List.range len).map fun i => Rows.uptoBulk (D i)).sum + 1 ≤ Rows.uptoBulk (DataW.slice (H := H) ((List.range len).map D) ((List.range (m - len)).map fun j => D (len + j))) := by
      simp only [Rows.uptoBulk, bulk_all, List.map_map]
      have : (List.map (Rows.uptoBulk ∘ D) (List.range len)).sum = ((List.range len).map fun i => Rows.uptoBulk (D i)).sum := rfl
      omega
    dsimp only at hb
    have hD : ∀ k, k < len → Rows.uptoBulk (D k) ≤ N := fun k hk => by
      have := sum_mem (fun i => Rows.uptoBulk (D i)) (List.mem_range.2 hk)
      omega
    have hall : ∀ k, k ≤ len → ∃ l : List α, l.length = k ∧ (l.map μ).sum ≤ ((List.range k).map fun i => Rows.uptoBulk (D i)).sum ∧ ∀ (i : Nat) (v : α), l[i]? = some v → ∃ cs', w.cells? 0 (a.add (i * Enc.sz α)) (Enc.sz α) = some cs' ∧ RC w (Enc.enc v) cs' := by
      intro k
      induction k with
      | zero => intro _; exact ⟨[], rfl, Nat.le_refl _, fun i v h => by simp at h⟩
      | succ k ih =>
        intro hk
        obtain ⟨l, h1, hsum, h2⟩ := ih (by omega)
        obtain ⟨cs', h3, h4⟩ := hel k (by omega)
        rw [hc] at h3
        obtain ⟨v, hv, hμ⟩ := ho _ _ _ h4 (hD k (by omega))
        refine ⟨l ++ [v], by simp [h1], ?_, fun i v' hi => ?_⟩
        · rw [List.range_succ]
          simp only [List.map_append, List.map_cons, List.map_nil, List.sum_append, List.sum_cons, List.sum_nil]
          dsimp only at hμ
          omega
        rcases Nat.lt_or_ge i l.length with h | h
        · rw [List.getElem?_append_left h] at hi; exact h2 i v' hi
        · rw [List.getElem?_append_right h] at hi
          have hi0 : i - l.length = 0 := by
            rcases Nat.eq_zero_or_pos (i - l.length) with h0 | h0
            · exact h0
            · rw [List.getElem?_eq_none (by simp only [List.length_singleton]; omega)] at hi; cases hi
          have hik : i = k := by omega
          rw [hi0] at hi; cases hi
          rw [hik]; exact ⟨cs', h3, hv⟩
    obtain ⟨l, hl, hsum, hcells⟩ := hall len (Nat.le_refl _)
    have hpos : 0 < Enc.sz α := EncLen.pos
    have hspot : l ≠ [] → a.spot = none ∧ a.block < w.heap.size := by
      intro hne
      obtain ⟨v, r, rfl⟩ := List.exists_cons_of_ne_nil hne
      obtain ⟨cs', h1, h2⟩ := hcells 0 v rfl
      obtain ⟨-, h3, h4⟩ := World.cells?_some h1
      have h5 := h4 0 hpos
      rw [Nat.zero_mul, Deep.add_add, Nat.zero_add] at h5
      have h6 : (cs'[0]?).isSome := by rw [List.getElem?_eq_getElem (by omega)]; rfl
      rw [← h5] at h6
      have h7 : (a.add 0) = a := by simp [Addr.add]
      rw [h7] at h6
      unfold World.cell? at h6
      split at h6
      · rename_i c _ _ hb
        refine ⟨?_, (Array.getElem?_eq_some_iff.1 hb).1⟩
        split at h6
        · cases h6
        · rename_i hs
          cases hsp : a.spot with
          | none => rfl
          | some q => rw [hsp] at hs; exact absurd rfl hs
      · cases h6
    have hadd : l ≠ [] → ∀ k, a.add k = ⟨a.block, a.off + k, none⟩ := by
      intro hne k
      have h1 := (hspot hne).1
      unfold Addr.add
      split
      · rename_i h0; subst h0
        obtain ⟨b, o, sp⟩ := a
        simp only at h1; subst h1; rfl
      · rfl
    have hcell : ∀ (i : Nat) (e' : List C) (j : Nat) (c : C), (Enc.encL l)[i]? = some e' → e'[j]? = some c → ∃ u, w.cell? ⟨a.block, a.off + i * Enc.sz α + j, none⟩ = some u ∧ Reads (allS w) w c u := by
      intro i e' j c hi hj
      rw [Enc.map, List.getElem?_map] at hi
      cases hx : l[i]? with
      | none => rw [hx] at hi; cases hi
      | some v =>
        rw [hx] at hi; cases hi
        have hne : l ≠ [] := by intro h0; rw [h0] at hx; simp at hx
        obtain ⟨cs', h1, h2⟩ := hcells i v hx
        obtain ⟨u, h3, h4⟩ := h2.2 j c hj
        obtain ⟨-, h5, h6⟩ := World.cells?_some h1
        have hjl : j < Enc.sz α := by have := (List.getElem?_eq_some_iff.1 h3).1; omega
        have h7 := h6 j hjl
        rw [Deep.add_add, hadd hne, h3, ← Nat.add_assoc] at h7
        exact ⟨u, h7, h4⟩
    refine ⟨l, ⟨rfl, fun j c hj => ?_⟩, by dsimp only; omega⟩
    cases j with
    | succ j => cases hj
    | zero =>
      cases hj
      refine ⟨_, rfl, ?_⟩
      have hR := Reads.sl (S := allS w) (w := w) (Enc.sz α) (Enc.encL l) (some a) cap a.block a.off (fun i j => (w.cell? ⟨a.block, a.off + i * Enc.sz α + j, none⟩).getD undef) (by rw [Enc.len, hl]; exact hlc)
        (fun hne => by
          have hne' : l ≠ [] := by intro h0; rw [h0, Enc.nil] at hne; exact hne rfl
          have h7 : (a.add 0) = a := by simp [Addr.add]
          rw [← h7, hadd hne'])
        (fun i e' hi => encL_lens l e' (List.mem_of_getElem? hi))
        (fun i e' j c hi hj => by obtain ⟨u, h1, -⟩ := hcell i e' j c hi hj; rw [h1]; rfl)
        (fun i e' j c hi hj => by
          have hne : l ≠ [] := by intro h0; rw [h0, Enc.nil] at hi; simp at hi
          exact (hspot hne).2)
        (fun i e' j c hi hj => by obtain ⟨u, h1, h2⟩ := hcell i e' j c hi hj; rw [h1]; exact h2)
      rw [Enc.len, hl] at hR
      exact hR
theorem z_pos {α : Type} [Enc α] {μ : α → Nat} {t : TypeId} (h : ∀ N, OpensZ enc P w N t α μ → OpensZ enc P w (N + 1) t α μ) : ∀ N, OpensZ enc P w N t α μ
  | 0 => fun fuel cs x _ hb => by have := bulk_pos x.1; omega
  | N + 1 => h N (z_pos h N)
end
section
variable {H : Type} {enc : TypeId × Value → H} {w : World} {N : Nat}
theorem cells_3 : Try.prog.cellsOf 3 = 1 := by kernel_rfl
theorem cells_4 : Try.prog.cellsOf 4 = 1 := by kernel_rfl
theorem cells_9 : Try.prog.cellsOf 9 = 1 := by kernel_rfl
theorem cells_39 : Try.prog.cellsOf 39 = 1 := by kernel_rfl
theorem cells_40 : Try.prog.cellsOf 40 = 1 := by kernel_rfl
theorem cells_42 : Try.prog.cellsOf 42 = 5 := by kernel_rfl
theorem cells_43 : Try.prog.cellsOf 43 = 1 := by kernel_rfl
theorem cells_45 : Try.prog.cellsOf 45 = 7 := by kernel_rfl
theorem cells_46 : Try.prog.cellsOf 46 = 1 := by kernel_rfl
theorem cells_48 : Try.prog.cellsOf 48 = 23 := by kernel_rfl
theorem cells_84 : Try.prog.cellsOf 84 = 6 := by kernel_rfl
theorem cells_85 : Try.prog.cellsOf 85 = 1 := by kernel_rfl
theorem cells_87 : Try.prog.cellsOf 87 = 8 := by kernel_rfl
theorem cells_89 : Try.prog.cellsOf 89 = 15 := by kernel_rfl
theorem cells_100 : Try.prog.cellsOf 100 = 1 := by kernel_rfl
theorem cells_102 : Try.prog.cellsOf 102 = 2 := by kernel_rfl
theorem cells_115 : Try.prog.cellsOf 115 = 10 := by kernel_rfl
theorem cells_149 : Try.prog.cellsOf 149 = 2 := by kernel_rfl
theorem z_lv : OpensZ enc Try.prog w (N + 1) 149 LV (fun _ => 1) := by
  intro fuel cs x h hb
  obtain ⟨xs, n, _, rfl, hl, hlen, hf⟩ := DataW.trod_struct Try.underlying149 h
  match xs, hlen with
  | [y0, y1], _ =>
    have hb' : Rows.uptoBulk y0.1 + Rows.uptoBulk y1.1 + 1 ≤ Rows.uptoBulk (DataW.agg (H := H) [y0.1, y1.1]) := by simp only [Rows.uptoBulk, Rows.uptoBulkAll]; omega
    have hb2 : Rows.uptoBulk (DataW.agg (H := H) [y0.1, y1.1]) ≤ N + 1 := hb
    obtain ⟨v0, r0, m0⟩ := (z_int Try.underlying3 : OpensZ enc Try.prog w N _ _ _) n _ _ (hf 0 _ rfl) (by omega)
    change RC w (Enc.enc v0) ((cs.drop 0).take (Try.prog.cellsOf 3)) at r0
    rw [cells_3] at r0
    obtain ⟨v1, r1, m1⟩ := (z_int Try.underlying3 : OpensZ enc Try.prog w N _ _ _) n _ _ (hf 1 _ rfl) (by omega)
    change RC w (Enc.enc v1) ((cs.drop 1).take (Try.prog.cellsOf 3)) at r1
    rw [cells_3] at r1
    have hcs : cs.take 2 = cs := List.take_of_length_le (by rw [hl]; exact Nat.le_of_eq cells_149)
    have hR := ((((RC.nil).snoc (k := 1) r0 rfl)).snoc (k := 1) r1 rfl)
    refine ⟨(v0, v1), by rw [← hcs]; exact hR, Nat.le_trans ?_ hb'⟩
    show 1 ≤ _
    omega
theorem z_lv' : OpensZ enc Try.prog w N 149 LV (fun _ => 1) := z_pos (fun _ _ => z_lv) N
theorem z_lvl : OpensZ enc Try.prog w (N + 1) 102 Lvl (fun _ => 1) := by
  intro fuel cs x h hb
  obtain ⟨xs, n, _, rfl, hl, hlen, hf⟩ := DataW.trod_struct Try.underlying102 h
  match xs, hlen with
  | [y0, y1], _ =>
    have hb' : Rows.uptoBulk y0.1 + Rows.uptoBulk y1.1 + 1 ≤ Rows.uptoBulk (DataW.agg (H := H) [y0.1, y1.1]) := by simp only [Rows.uptoBulk, Rows.uptoBulkAll]; omega
    have hb2 : Rows.uptoBulk (DataW.agg (H := H) [y0.1, y1.1]) ≤ N + 1 := hb
    obtain ⟨v0, r0, m0⟩ := (z_int Try.underlying3 : OpensZ enc Try.prog w N _ _ _) n _ _ (hf 0 _ rfl) (by omega)
    change RC w (Enc.enc v0) ((cs.drop 0).take (Try.prog.cellsOf 3)) at r0
    rw [cells_3] at r0
    obtain ⟨v1, r1, m1⟩ := (z_slice Try.underlying100 (by kernel_rfl) z_lv' : OpensZ enc Try.prog w N _ _ _) n _ _ (hf 1 _ rfl) (by omega)
    change RC w (Enc.enc v1) ((cs.drop 1).take (Try.prog.cellsOf 100)) at r1
    rw [cells_100] at r1
    have hcs : cs.take 2 = cs := List.take_of_length_le (by rw [hl]; exact Nat.le_of_eq cells_102)
    have hR := ((((RC.nil).snoc (k := 1) r0 rfl)).snoc (k := 1) r1 rfl)
    refine ⟨⟨v0, v1⟩, by rw [← hcs]; exact hR, Nat.le_trans ?_ hb'⟩
    show 1 ≤ _
    omega
theorem z_lvl' : OpensZ enc Try.prog w N 102 Lvl (fun _ => 1) := z_pos (fun _ _ => z_lvl) N
theorem z_tm (hk : OpensZ enc Try.prog w N 42 Tm Tm.size) : OpensZ enc Try.prog w (N + 1) 42 Tm Tm.size := by
  intro fuel cs x h hb
  obtain ⟨xs, n, _, rfl, hl, hlen, hf⟩ := DataW.trod_struct Try.underlying42 h
  match xs, hlen with
  | [y0, y1, y2, y3, y4], _ =>
    have hb' : Rows.uptoBulk y0.1 + Rows.uptoBulk y1.1 + Rows.uptoBulk y2.1 + Rows.uptoBulk y3.1 + Rows.uptoBulk y4.1 + 1 ≤ Rows.uptoBulk (DataW.agg (H := H) [y0.1, y1.1, y2.1, y3.1, y4.1]) := by simp only [Rows.uptoBulk, Rows.uptoBulkAll]; omega
    have hb2 : Rows.uptoBulk (DataW.agg (H := H) [y0.1, y1.1, y2.1, y3.1, y4.1]) ≤ N + 1 := hb
    obtain ⟨v0, r0, m0⟩ := (z_int Try.underlying3 : OpensZ enc Try.prog w N _ _ _) n _ _ (hf 0 _ rfl) (by omega)
    change RC w (Enc.enc v0) ((cs.drop 0).take (Try.prog.cellsOf 3)) at r0
    rw [cells_3] at r0
    obtain ⟨v1, r1, m1⟩ := (z_int Try.underlying3 : OpensZ enc Try.prog w N _ _ _) n _ _ (hf 1 _ rfl) (by omega)
    change RC w (Enc.enc v1) ((cs.drop 1).take (Try.prog.cellsOf 3)) at r1
    rw [cells_3] at r1
    obtain ⟨v2, r2, m2⟩ := (z_str Try.underlying9 : OpensZ enc Try.prog w N _ _ _) n _ _ (hf 2 _ rfl) (by omega)
    change RC w (Enc.enc v2) ((cs.drop 2).take (Try.prog.cellsOf 9)) at r2
    rw [cells_9] at r2
    obtain ⟨v3, r3, m3⟩ := (z_slice Try.underlying39 (by kernel_rfl) z_lvl' : OpensZ enc Try.prog w N _ _ _) n _ _ (hf 3 _ rfl) (by omega)
    change RC w (Enc.enc v3) ((cs.drop 3).take (Try.prog.cellsOf 39)) at r3
    rw [cells_39] at r3
    obtain ⟨v4, r4, m4⟩ := (z_slice Try.underlying40 (by kernel_rfl) hk : OpensZ enc Try.prog w N _ _ _) n _ _ (hf 4 _ rfl) (by omega)
    change RC w (Enc.enc v4) ((cs.drop 4).take (Try.prog.cellsOf 40)) at r4
    rw [cells_40] at r4
    have hcs : cs.take 5 = cs := List.take_of_length_le (by rw [hl]; exact Nat.le_of_eq cells_42)
    have hR := ((((((((((RC.nil).snoc (k := 1) r0 rfl)).snoc (k := 1) r1 rfl)).snoc (k := 1) r2 rfl)).snoc (k := 1) r3 rfl)).snoc (k := 1) r4 rfl)
    refine ⟨Tm.mk v0 v1 v2 v3 v4, by rw [← hcs]; exact hR, Nat.le_trans ?_ hb'⟩
    rw [Tm.size_eq]
    simp only [Tm.name, Tm.kids]
    dsimp only at m0 m1 m2 m3 m4 ⊢
    omega
theorem z_tm' : OpensZ enc Try.prog w N 42 Tm Tm.size := z_pos (fun _ h => z_tm h) N
theorem z_ctr : OpensZ enc Try.prog w (N + 1) 84 Ctr csz := by
  intro fuel cs x h hb
  obtain ⟨xs, n, _, rfl, hl, hlen, hf⟩ := DataW.trod_struct Try.underlying84 h
  match xs, hlen with
  | [y0, y1], _ =>
    have hb' : Rows.uptoBulk y0.1 + Rows.uptoBulk y1.1 + 1 ≤ Rows.uptoBulk (DataW.agg (H := H) [y0.1, y1.1]) := by simp only [Rows.uptoBulk, Rows.uptoBulkAll]; omega
    have hb2 : Rows.uptoBulk (DataW.agg (H := H) [y0.1, y1.1]) ≤ N + 1 := hb
    obtain ⟨v0, r0, m0⟩ := (z_str Try.underlying9 : OpensZ enc Try.prog w N _ _ _) n _ _ (hf 0 _ rfl) (by omega)
    change RC w (Enc.enc v0) ((cs.drop 0).take (Try.prog.cellsOf 9)) at r0
    rw [cells_9] at r0
    obtain ⟨v1, r1, m1⟩ := (z_tm' : OpensZ enc Try.prog w N _ _ _) n _ _ (hf 1 _ rfl) (by omega)
    change RC w (Enc.enc v1) ((cs.drop 1).take (Try.prog.cellsOf 42)) at r1
    rw [cells_42] at r1
    have hcs : cs.take 6 = cs := List.take_of_length_le (by rw [hl]; exact Nat.le_of_eq cells_84)
    have hR := ((((RC.nil).snoc (k := 1) r0 rfl)).snoc (k := 5) r1 rfl)
    refine ⟨⟨v0, v1⟩, by rw [← hcs]; exact hR, Nat.le_trans ?_ hb'⟩
    show csz ⟨v0, v1⟩ ≤ _
    unfold csz
    dsimp only at m0 m1 ⊢
    omega
theorem z_ctr' : OpensZ enc Try.prog w N 84 Ctr csz := z_pos (fun _ _ => z_ctr) N
theorem z_rcr : OpensZ enc Try.prog w (N + 1) 45 Rcr (fun r => r.ty.size + (r.rules.map Tm.size).sum) := by
  intro fuel cs x h hb
  obtain ⟨xs, n, _, rfl, hl, hlen, hf⟩ := DataW.trod_struct Try.underlying45 h
  match xs, hlen with
  | [y0, y1, y2], _ =>
    have hb' : Rows.uptoBulk y0.1 + Rows.uptoBulk y1.1 + Rows.uptoBulk y2.1 + 1 ≤ Rows.uptoBulk (DataW.agg (H := H) [y0.1, y1.1, y2.1]) := by simp only [Rows.uptoBulk, Rows.uptoBulkAll]; omega
    have hb2 : Rows.uptoBulk (DataW.agg (H := H) [y0.1, y1.1, y2.1]) ≤ N + 1 := hb
    obtain ⟨v0, r0, m0⟩ := (z_int Try.underlying3 : OpensZ enc Try.prog w N _ _ _) n _ _ (hf 0 _ rfl) (by omega)
    change RC w (Enc.enc v0) ((cs.drop 0).take (Try.prog.cellsOf 3)) at r0
    rw [cells_3] at r0
    obtain ⟨v1, r1, m1⟩ := (z_tm' : OpensZ enc Try.prog w N _ _ _) n _ _ (hf 1 _ rfl) (by omega)
    change RC w (Enc.enc v1) ((cs.drop 1).take (Try.prog.cellsOf 42)) at r1
    rw [cells_42] at r1
    obtain ⟨v2, r2, m2⟩ := (z_slice Try.underlying40 (by kernel_rfl) z_tm' : OpensZ enc Try.prog w N _ _ _) n _ _ (hf 2 _ rfl) (by omega)
    change RC w (Enc.enc v2) ((cs.drop 6).take (Try.prog.cellsOf 40)) at r2
    rw [cells_40] at r2
    have hcs : cs.take 7 = cs := List.take_of_length_le (by rw [hl]; exact Nat.le_of_eq cells_45)
    have hR := ((((((RC.nil).snoc (k := 1) r0 rfl)).snoc (k := 5) r1 rfl)).snoc (k := 1) r2 rfl)
    refine ⟨⟨v0, v1, v2⟩, by rw [← hcs]; exact hR, Nat.le_trans ?_ hb'⟩
    dsimp only at m0 m1 m2 ⊢
    omega
theorem z_rcr' : OpensZ enc Try.prog w N 45 Rcr (fun r => r.ty.size + (r.rules.map Tm.size).sum) := z_pos (fun _ _ => z_rcr) N
theorem z_tr (hk : OpensZ enc Try.prog w N 115 Br bsz) : OpensZ enc Try.prog w (N + 1) 87 Tr Tr.size := by
  intro fuel cs x h hb
  obtain ⟨xs, n, _, rfl, hl, hlen, hf⟩ := DataW.trod_struct Try.underlying87 h
  match xs, hlen with
  | [y0, y1, y2, y3], _ =>
    have hb' : Rows.uptoBulk y0.1 + Rows.uptoBulk y1.1 + Rows.uptoBulk y2.1 + Rows.uptoBulk y3.1 + 1 ≤ Rows.uptoBulk (DataW.agg (H := H) [y0.1, y1.1, y2.1, y3.1]) := by simp only [Rows.uptoBulk, Rows.uptoBulkAll]; omega
    have hb2 : Rows.uptoBulk (DataW.agg (H := H) [y0.1, y1.1, y2.1, y3.1]) ≤ N + 1 := hb
    obtain ⟨v0, r0, m0⟩ := (z_int Try.underlying3 : OpensZ enc Try.prog w N _ _ _) n _ _ (hf 0 _ rfl) (by omega)
    change RC w (Enc.enc v0) ((cs.drop 0).take (Try.prog.cellsOf 3)) at r0
    rw [cells_3] at r0
    obtain ⟨v1, r1, m1⟩ := (z_tm' : OpensZ enc Try.prog w N _ _ _) n _ _ (hf 1 _ rfl) (by omega)
    change RC w (Enc.enc v1) ((cs.drop 1).take (Try.prog.cellsOf 42)) at r1
    rw [cells_42] at r1
    obtain ⟨v2, r2, m2⟩ := (z_int Try.underlying3 : OpensZ enc Try.prog w N _ _ _) n _ _ (hf 2 _ rfl) (by omega)
    change RC w (Enc.enc v2) ((cs.drop 6).take (Try.prog.cellsOf 3)) at r2
    rw [cells_3] at r2
    obtain ⟨v3, r3, m3⟩ := (z_slice Try.underlying85 (by kernel_rfl) hk : OpensZ enc Try.prog w N _ _ _) n _ _ (hf 3 _ rfl) (by omega)
    change RC w (Enc.enc v3) ((cs.drop 7).take (Try.prog.cellsOf 85)) at r3
    rw [cells_85] at r3
    have hcs : cs.take 8 = cs := List.take_of_length_le (by rw [hl]; exact Nat.le_of_eq cells_87)
    have hR := ((((((((RC.nil).snoc (k := 1) r0 rfl)).snoc (k := 5) r1 rfl)).snoc (k := 1) r2 rfl)).snoc (k := 1) r3 rfl)
    refine ⟨Tr.mk v0 v1 v2 v3, by rw [← hcs]; exact hR, Nat.le_trans ?_ hb'⟩
    rw [Tr.size_eq]
    simp only [Tr.body, Tr.branches]
    dsimp only at m0 m1 m2 m3 ⊢
    omega
theorem z_br (hk : OpensZ enc Try.prog w N 87 Tr Tr.size) : OpensZ enc Try.prog w (N + 1) 115 Br bsz := by
  intro fuel cs x h hb
  obtain ⟨xs, n, _, rfl, hl, hlen, hf⟩ := DataW.trod_struct Try.underlying115 h
  match xs, hlen with
  | [y0, y1, y2], _ =>
    have hb' : Rows.uptoBulk y0.1 + Rows.uptoBulk y1.1 + Rows.uptoBulk y2.1 + 1 ≤ Rows.uptoBulk (DataW.agg (H := H) [y0.1, y1.1, y2.1]) := by simp only [Rows.uptoBulk, Rows.uptoBulkAll]; omega
    have hb2 : Rows.uptoBulk (DataW.agg (H := H) [y0.1, y1.1, y2.1]) ≤ N + 1 := hb
    obtain ⟨v0, r0, m0⟩ := (z_str Try.underlying9 : OpensZ enc Try.prog w N _ _ _) n _ _ (hf 0 _ rfl) (by omega)
    change RC w (Enc.enc v0) ((cs.drop 0).take (Try.prog.cellsOf 9)) at r0
    rw [cells_9] at r0
    obtain ⟨v1, r1, m1⟩ := (z_bool Try.underlying4 : OpensZ enc Try.prog w N _ _ _) n _ _ (hf 1 _ rfl) (by omega)
    change RC w (Enc.enc v1) ((cs.drop 1).take (Try.prog.cellsOf 4)) at r1
    rw [cells_4] at r1
    obtain ⟨v2, r2, m2⟩ := hk n _ _ (hf 2 _ rfl) (by omega)
    change RC w (Enc.enc v2) ((cs.drop 2).take (Try.prog.cellsOf 87)) at r2
    rw [cells_87] at r2
    have hcs : cs.take 10 = cs := List.take_of_length_le (by rw [hl]; exact Nat.le_of_eq cells_115)
    have hR := ((((((RC.nil).snoc (k := 1) r0 rfl)).snoc (k := 1) r1 rfl)).snoc (k := 8) r2 rfl)
    refine ⟨⟨v0, v1, v2⟩, by rw [← hcs]; exact hR, Nat.le_trans ?_ hb'⟩
    show bsz ⟨v0, v1, v2⟩ ≤ _
    unfold bsz
    dsimp only at m0 m1 m2 ⊢
    omega
theorem z_trbr : ∀ N, OpensZ enc Try.prog w N 87 Tr Tr.size ∧ OpensZ enc Try.prog w N 115 Br bsz
  | 0 => ⟨fun fuel cs x _ hb => by have := bulk_pos x.1; omega, fun fuel cs x _ hb => by have := bulk_pos x.1; omega⟩
  | N + 1 => ⟨z_tr (z_trbr N).2, z_br (z_trbr N).1⟩
theorem z_fn : OpensZ enc Try.prog w (N + 1) 89 Fn fsz := by
  intro fuel cs x h hb
  obtain ⟨xs, n, _, rfl, hl, hlen, hf⟩ := DataW.trod_struct Try.underlying89 h
  match xs, hlen with
  | [y0, y1, y2, y3], _ =>
    have hb' : Rows.uptoBulk y0.1 + Rows.uptoBulk y1.1 + Rows.uptoBulk y2.1 + Rows.uptoBulk y3.1 + 1 ≤ Rows.uptoBulk (DataW.agg (H := H) [y0.1, y1.1, y2.1, y3.1]) := by simp only [Rows.uptoBulk, Rows.uptoBulkAll]; omega
    have hb2 : Rows.uptoBulk (DataW.agg (H := H) [y0.1, y1.1, y2.1, y3.1]) ≤ N + 1 := hb
    obtain ⟨v0, r0, m0⟩ := (z_str Try.underlying9 : OpensZ enc Try.prog w N _ _ _) n _ _ (hf 0 _ rfl) (by omega)
    change RC w (Enc.enc v0) ((cs.drop 0).take (Try.prog.cellsOf 9)) at r0
    rw [cells_9] at r0
    obtain ⟨v1, r1, m1⟩ := (z_tm' : OpensZ enc Try.prog w N _ _ _) n _ _ (hf 1 _ rfl) (by omega)
    change RC w (Enc.enc v1) ((cs.drop 1).take (Try.prog.cellsOf 42)) at r1
    rw [cells_42] at r1
    obtain ⟨v2, r2, m2⟩ := (z_int Try.underlying3 : OpensZ enc Try.prog w N _ _ _) n _ _ (hf 2 _ rfl) (by omega)
    change RC w (Enc.enc v2) ((cs.drop 6).take (Try.prog.cellsOf 3)) at r2
    rw [cells_3] at r2
    obtain ⟨v3, r3, m3⟩ := (z_trbr N).1 n _ _ (hf 3 _ rfl) (by omega)
    change RC w (Enc.enc v3) ((cs.drop 7).take (Try.prog.cellsOf 87)) at r3
    rw [cells_87] at r3
    have hcs : cs.take 15 = cs := List.take_of_length_le (by rw [hl]; exact Nat.le_of_eq cells_89)
    have hR := ((((((((RC.nil).snoc (k := 1) r0 rfl)).snoc (k := 5) r1 rfl)).snoc (k := 1) r2 rfl)).snoc (k := 8) r3 rfl)
    refine ⟨⟨v0, v1, v2, v3⟩, by rw [← hcs]; exact hR, Nat.le_trans ?_ hb'⟩
    show fsz ⟨v0, v1, v2, v3⟩ ≤ _
    unfold fsz
    dsimp only at m0 m1 m2 m3 ⊢
    omega
theorem z_fn' : OpensZ enc Try.prog w N 89 Fn fsz := z_pos (fun _ _ => z_fn) N
theorem z_dcl : OpensZ enc Try.prog w (N + 1) 48 Dcl Dcl.size := by
  intro fuel cs x h hb
  obtain ⟨xs, n, _, rfl, hl, hlen, hf⟩ := DataW.trod_struct Try.underlying48 h
  match xs, hlen with
  | [y0, y1, y2, y3, y4, y5, y6, y7, y8], _ =>
    have hb' : Rows.uptoBulk y0.1 + Rows.uptoBulk y1.1 + Rows.uptoBulk y2.1 + Rows.uptoBulk y3.1 + Rows.uptoBulk y4.1 + Rows.uptoBulk y5.1 + Rows.uptoBulk y6.1 + Rows.uptoBulk y7.1 + Rows.uptoBulk y8.1 + 1 ≤ Rows.uptoBulk (DataW.agg (H := H) [y0.1, y1.1, y2.1, y3.1, y4.1, y5.1, y6.1, y7.1, y8.1]) := by simp only [Rows.uptoBulk, Rows.uptoBulkAll]; omega
    have hb2 : Rows.uptoBulk (DataW.agg (H := H) [y0.1, y1.1, y2.1, y3.1, y4.1, y5.1, y6.1, y7.1, y8.1]) ≤ N + 1 := hb
    obtain ⟨v0, r0, m0⟩ := (z_int Try.underlying3 : OpensZ enc Try.prog w N _ _ _) n _ _ (hf 0 _ rfl) (by omega)
    change RC w (Enc.enc v0) ((cs.drop 0).take (Try.prog.cellsOf 3)) at r0
    rw [cells_3] at r0
    obtain ⟨v1, r1, m1⟩ := (z_str Try.underlying9 : OpensZ enc Try.prog w N _ _ _) n _ _ (hf 1 _ rfl) (by omega)
    change RC w (Enc.enc v1) ((cs.drop 1).take (Try.prog.cellsOf 9)) at r1
    rw [cells_9] at r1
    obtain ⟨v2, r2, m2⟩ := (z_int Try.underlying3 : OpensZ enc Try.prog w N _ _ _) n _ _ (hf 2 _ rfl) (by omega)
    change RC w (Enc.enc v2) ((cs.drop 2).take (Try.prog.cellsOf 3)) at r2
    rw [cells_3] at r2
    obtain ⟨v3, r3, m3⟩ := (z_tm' : OpensZ enc Try.prog w N _ _ _) n _ _ (hf 3 _ rfl) (by omega)
    change RC w (Enc.enc v3) ((cs.drop 3).take (Try.prog.cellsOf 42)) at r3
    rw [cells_42] at r3
    obtain ⟨v4, r4, m4⟩ := (z_tm' : OpensZ enc Try.prog w N _ _ _) n _ _ (hf 4 _ rfl) (by omega)
    change RC w (Enc.enc v4) ((cs.drop 8).take (Try.prog.cellsOf 42)) at r4
    rw [cells_42] at r4
    obtain ⟨v5, r5, m5⟩ := (z_int Try.underlying3 : OpensZ enc Try.prog w N _ _ _) n _ _ (hf 5 _ rfl) (by omega)
    change RC w (Enc.enc v5) ((cs.drop 13).take (Try.prog.cellsOf 3)) at r5
    rw [cells_3] at r5
    obtain ⟨v6, r6, m6⟩ := (z_slice Try.underlying43 (by kernel_rfl) z_ctr' : OpensZ enc Try.prog w N _ _ _) n _ _ (hf 6 _ rfl) (by omega)
    change RC w (Enc.enc v6) ((cs.drop 14).take (Try.prog.cellsOf 43)) at r6
    rw [cells_43] at r6
    obtain ⟨v7, r7, m7⟩ := (z_rcr' : OpensZ enc Try.prog w N _ _ _) n _ _ (hf 7 _ rfl) (by omega)
    change RC w (Enc.enc v7) ((cs.drop 15).take (Try.prog.cellsOf 45)) at r7
    rw [cells_45] at r7
    obtain ⟨v8, r8, m8⟩ := (z_slice Try.underlying46 (by kernel_rfl) z_fn' : OpensZ enc Try.prog w N _ _ _) n _ _ (hf 8 _ rfl) (by omega)
    change RC w (Enc.enc v8) ((cs.drop 22).take (Try.prog.cellsOf 46)) at r8
    rw [cells_46] at r8
    have hcs : cs.take 23 = cs := List.take_of_length_le (by rw [hl]; exact Nat.le_of_eq cells_48)
    have hR := ((((((((((((((((((RC.nil).snoc (k := 1) r0 rfl)).snoc (k := 1) r1 rfl)).snoc (k := 1) r2 rfl)).snoc (k := 5) r3 rfl)).snoc (k := 5) r4 rfl)).snoc (k := 1) r5 rfl)).snoc (k := 1) r6 rfl)).snoc (k := 7) r7 rfl)).snoc (k := 1) r8 rfl)
    refine ⟨⟨v0, v1, v2, v3, v4, v5, v6, v7, v8⟩, by rw [← hcs]; exact hR, Nat.le_trans ?_ hb'⟩
    show Dcl.size ⟨v0, v1, v2, v3, v4, v5, v6, v7, v8⟩ ≤ _
    unfold Dcl.size
    dsimp only at m0 m1 m2 m3 m4 m5 m6 m7 m8 ⊢
    omega
theorem z_dcl' : OpensZ enc Try.prog w N 48 Dcl Dcl.size := z_pos (fun _ _ => z_dcl) N
theorem z_env : OpensZ enc Try.prog w N 22 (List Dcl) (fun l => 1 + envSz l) := z_slice Try.underlying22 (by kernel_rfl) z_dcl'
end
end Go.Proofs.Ytijcchddnnnmdaa
namespace Go.Proofs.Ytijcchddnnnmdaa
open Go.ChangeShapes Go.WideShapes Go.ChangeAt Go.RowKit Go.WideElems
set_option linter.unusedSimpArgs false
set_option linter.unusedVariables false
set_option linter.unusedSectionVars false
theorem own : ownKnob Try.prog.godebug = none := by kernel_rfl
theorem laidOut : laidOutB Try.prog = true := by kernel_rfl
set_option maxRecDepth 100000 in
theorem slice_readsZ {H : Type} {enc : TypeId × Value → H} {α : Type} [Enc α] [EncLen α] {μ : List α → Nat} {W : World} {base : Nat} {t e : TypeId} {v : Value} {d : DataW H} {p : List MemPlace} (ht : Try.prog.underlying t = some (.slice e)) (ho : ∀ N, OpensZ enc Try.prog W N t (List α) μ)
    (hval : Value.okWide Try.prog W .any base t v) (h : DataW.Trod enc Try.prog W 0 (fun _ => true) true t v d p) : ∃ l : List α, Reads (allS W) W (.sl (Enc.sz α) (Enc.encL l)) v ∧ μ l ≤ Rows.uptoBulk d := by
  obtain ⟨fuel, hf⟩ := h
  obtain ⟨l, hl, hμ⟩ := ho _ _ _ _ hf (Nat.le_refl _)
  refine ⟨l, ?_, hμ⟩
  obtain ⟨u, h2, h3⟩ := hl.2 0 _ rfl
  have h4 : v.cells = #[v] := by
    have h5 := hl.1
    cases v with
    | agg cs =>
      exfalso
      obtain ⟨s, n, c, h7⟩ := okWide_slice ht hval
      cases h7
    | _ => rfl
  rw [h4] at h2
  cases h2
  exact h3
end Go.Proofs.Ytijcchddnnnmdaa
namespace Go.Proofs.Ytijcchddnnnmdaa
open Go.ChangeShapes Go.WideShapes Go.ChangeAt Go.RowKit Go.WideElems
set_option linter.unusedSimpArgs false
set_option linter.unusedVariables false
set_option linter.unusedSectionVars false
theorem law8 {W : World} (a0 : List Dcl) (hs : envSz a0 ≤ 100000000) {v0 : Value} (hv0 : Reads (allS W) W (.sl 23 (Enc.encL a0)) v0) : Calls Try.prog 8 #[v0] W fun e W' => e = .returned (.bool true) ∧ Below W.heap.size W W' := by
  have hF := m8_ok a0 true (m8_true a0 hs)
  refine Calls.mono (hF.2 (allS W) W #[v0] (fun b o h => h) ⟨rfl, fun i y hy => ?_⟩) ?_
  · match i, hy with
    | 0, hy => cases hy; exact ⟨_, rfl, hv0⟩
  · rintro e W' ⟨u, S', rfl, hx, -, -, hu⟩
    have e1 : u = .bool true := by cases hu; rfl
    rw [e1]
    exact ⟨rfl, hx.os, hx.tape, hx.output, hx.size, fun k hk => hx.block k hk (fun h => h)⟩
set_option maxRecDepth 100000 in
theorem contract (H : Type) (enc : TypeId × Value → H) (W : World) (base : Nat) (args : Array Value) (ds gs : List (DataW H)) (before : List MemPlace) (hk : Rows.uptoSmall H (ds ++ gs) = true)
    (hval0 : ∀ (j : Nat) t v, Try.f8.params[j]? = some t → args[j]? = some v → Value.okWide Try.prog W .any base t v)
    (hW : DataW.Whole enc Try.prog Try.f8.params.toList Rows.dependGraphsSpec.vars false W args.toList ds gs before) :
    Calls Try.prog 8 args W fun e W' => ∃ v, e = .returned v ∧ Rows.dependGraphsSpec.post enc Try.prog Try.f8 false true false false W args v W' := by
  have hval : ∀ (j : Nat) t v, Try.f8.params[j]? = some t → args[j]? = some v → Value.okWide Try.prog W .any base t v := hval0
  have hW' := hW
  obtain ⟨p, q, hA0, hV, rfl, hfz, hnd⟩ := hW
  have hA : DataW.TrodAll enc Try.prog W 0 (fun _ => true) true Try.f8.params.toList args.toList ds p := hA0
  rw [Try.params8] at hA hval
  obtain ⟨v0, d0, rfl, rfl, h0⟩ := trodAll_one hA
  obtain ⟨rfl, rfl⟩ := trodVars_none hV
  have h0k := h0
  obtain ⟨a0, hv0, hz⟩ := slice_readsZ Try.underlying22 (fun N => z_env) (hval 0 22 v0 rfl rfl) h0
  have hbk : Rows.uptoBulkAll ([d0] ++ ([] : List (DataW H))) ≤ 1048576 := of_decide_eq_true hk
  simp only [List.append_nil, Rows.uptoBulkAll] at hbk
  clear hA0 hval0
  simp only [List.append_nil] at hW'
  have hlt : ∀ x ∈ p, x.block < W.heap.size := fun x hx => by simpa using hW'.lt x hx
  refine (law8 a0 (by omega) hv0).mono fun e W' ⟨he, hb⟩ => ?_
  subst he
  have hargs : ∀ sp : Nat → Bool, (∀ x ∈ p, sp x.block = true) → DataW.TrodAll enc Try.prog W' 0 sp true [22] [v0] [d0] p := fun sp hsp =>
    trodAll_mk1 (WideElems.Trod_stays laidOut (by kernel_rfl) (of_decide_eq_true (by kernel_rfl)) h0k (fun x hx => hb.same (hlt x hx)) (fun x hx => hsp x hx))
  exact ⟨_, rfl, _, _, _, [], p, [], hW', trodAll_mk1 (shut_bool Try.underlying4 true), hargs _ (fun x hx => by simpa using hlt x hx), rfl, hb.frame _, fun h => by cases h⟩
set_option maxRecDepth 100000 in
theorem lifted (os : Os) (started : os.Started) (H : Type) (enc : TypeId × Value → H) (F : Stop.Interp) :
    ReturnsInHanded {} Try.checked os 8 .any ((Rows.OpenSpec.upto Rows.dependGraphsSpec).pre6 enc Try.prog Try.f8 Rows.dependGraphsUptoRow.domain false) (((Rows.OpenSpec.upto Rows.dependGraphsSpec).at F).post enc Try.prog Try.f8 false true false false) := by
  refine returnsInHanded_of_cond (C := Try.checked) (s := Rows.OpenSpec.upto Rows.dependGraphsSpec) (k := Rows.uptoSmall) rfl own started (by kernel_rfl) Try.func8
    (OpenSpec.witness (enc := enc) (C := Try.checked) (s := Rows.OpenSpec.upto Rows.dependGraphsSpec) (k := Rows.uptoSmall) rfl false ⟨#[], #[.slice none 0 0], []⟩ 8 (by kernel_rfl) (by kernel_rfl) (by kernel_rfl)
      (x := ([.nil], [], [])) (by kernel_rfl) rfl (by kernel_rfl)) ?_
  intro W base args ds gs before hval hW _ hk _
  exact contract H enc W base args ds gs before hk hval hW
theorem over : Rows.dependGraphsUptoRow.holds Try.pinned (Rows.OpenSpec.upto Rows.dependGraphsSpec) :=
  OpenClaim.holds_of_cond 8 Try.f8 rfl rfl rfl rfl rfl rfl rfl ⟨rfl, rfl, rfl, rfl, rfl⟩ rfl rfl rfl rfl rfl (by kernel_rfl) Try.func8 (by kernel_rfl)
    (of_decide_eq_true (by kernel_rfl)) (by unfold Func.isWrapper; first | (rw [if_pos (by decide +kernel)]; kernel_rfl) | (rw [if_neg (by decide +kernel)]; exact ⟨rfl, rfl⟩))
    (fun os started H enc _ F => lifted os started H enc F)
theorem dependGraphsUpto : Rows.DependGraphsUptoSaid := over
#print axioms dependGraphsUpto
end Go.Proofs.Ytijcchddnnnmdaa
