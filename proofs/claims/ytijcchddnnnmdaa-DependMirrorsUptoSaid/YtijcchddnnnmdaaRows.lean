/-
  NARROWER THAN 'FOR EVERY INPUT', by the rows' own cells (each row's printed sentence says how): DependAffects: loops · DependNeeds: loops · DependRepeats: loops · DependMirrors: loops · DependSorts: loops · DependGraphs: loops.
  DERIVED. THE GIVEN ROWS OF THIS SEAT. 6 by the template 'for every input the law returns true; each argument reads behind the call as it read before'; 0 by the template 'total and deterministic' (their statements: YtijcchddnnnmdaaTotals.lean).
  GIVEN WITH THE SEED: the statements are not yours to turn. If you find one false, say at which input.
  Laid BY PROGRAM, IN A SANDBOX (cutbox-rows.mjs): the forced cells as the released guide's own fill.sh prints them over the translation 7048a93873d5e9d0… (all of the seat's roots in one cut). By AI agents, Wed Nov 11 2026. No macro, syntax, notation, axiom, sorry.
-/
import Derived.Test.YtijcchddnnnmdaaChecked
import GoSem.Claim
import GoSem.ClaimJoined
import GoSem.ClaimMapViews
import Derived.JoinedTies
import Derived.KernelRfl
namespace Go.Proofs.Ytijcchddnnnmdaa
/- THE CELL 'sum', in the pinned program and in every row, IS THE sha256 OF THE DUMP (.gsa) THAT YtijcchddnnnmdaaProg.lean LOADS. Nothing in Lean hashes anything: it is a label: what it is worth is what the hold of that sum in a sandbox is worth. -/
noncomputable def Try.pinned : Pinned := { name := "ytijcchddnnnmdaa", sum := "7048a93873d5e9d017c9653d2f72fc46aaa07af8a7a8451e49470925d6e381d2", checked := Try.checked }
namespace Rows
def none {H : Type} : Left H := { results := [], args := [] }

/-- 'euclidlaw46.DependAffects': WHATEVER THE INPUT: true; the input reads as it did. -/
def dependAffectsSpec : ChangeSpec := { name := "dependAffects", fn := fun _ => fun
  | [d1, d2] => { results := [.lit (.bool true)], args := [d1, d2] }
  | _ => none }
def dependAffectsRow : OpenClaim := { program := "ytijcchddnnnmdaa", sum := "7048a93873d5e9d017c9653d2f72fc46aaa07af8a7a8451e49470925d6e381d2", func := "euclid/euclidlaw46.DependAffects", spec := "dependAffects", unfollowed := true, recurses := true, loops := true, apart := false }
def DependAffectsSaid : Prop := dependAffectsRow.holds Try.pinned (OpenSpec.ofChange dependAffectsSpec)

/-- ITS FALSE NEIGHBOUR: 'it returns false'. Refute it at one input. -/
def dependAffectsWrong : ChangeSpec := { name := "dependAffects", fn := fun _ => fun
  | [d1, d2] => { results := [.lit (.bool false)], args := [d1, d2] }
  | _ => none }
def DependAffectsWrongFalsely : Prop := dependAffectsRow.holds Try.pinned (OpenSpec.ofChange dependAffectsWrong)

/-- 'euclidlaw46.DependNeeds': WHATEVER THE INPUT: true; the input reads as it did. -/
def dependNeedsSpec : ChangeSpec := { name := "dependNeeds", fn := fun _ => fun
  | [d1, d2] => { results := [.lit (.bool true)], args := [d1, d2] }
  | _ => none }
def dependNeedsRow : OpenClaim := { program := "ytijcchddnnnmdaa", sum := "7048a93873d5e9d017c9653d2f72fc46aaa07af8a7a8451e49470925d6e381d2", func := "euclid/euclidlaw46.DependNeeds", spec := "dependNeeds", unfollowed := true, recurses := true, loops := true, apart := false }
def DependNeedsSaid : Prop := dependNeedsRow.holds Try.pinned (OpenSpec.ofChange dependNeedsSpec)

/-- ITS FALSE NEIGHBOUR: 'it returns false'. Refute it at one input. -/
def dependNeedsWrong : ChangeSpec := { name := "dependNeeds", fn := fun _ => fun
  | [d1, d2] => { results := [.lit (.bool false)], args := [d1, d2] }
  | _ => none }
def DependNeedsWrongFalsely : Prop := dependNeedsRow.holds Try.pinned (OpenSpec.ofChange dependNeedsWrong)

/-- 'euclidlaw46.DependRepeats': WHATEVER THE INPUT: true; the input reads as it did. -/
def dependRepeatsSpec : ChangeSpec := { name := "dependRepeats", fn := fun _ => fun
  | [d1, d2] => { results := [.lit (.bool true)], args := [d1, d2] }
  | _ => none }
def dependRepeatsRow : OpenClaim := { program := "ytijcchddnnnmdaa", sum := "7048a93873d5e9d017c9653d2f72fc46aaa07af8a7a8451e49470925d6e381d2", func := "euclid/euclidlaw46.DependRepeats", spec := "dependRepeats", unfollowed := true, recurses := true, loops := true, apart := false }
def DependRepeatsSaid : Prop := dependRepeatsRow.holds Try.pinned (OpenSpec.ofChange dependRepeatsSpec)

/-- ITS FALSE NEIGHBOUR: 'it returns false'. Refute it at one input. -/
def dependRepeatsWrong : ChangeSpec := { name := "dependRepeats", fn := fun _ => fun
  | [d1, d2] => { results := [.lit (.bool false)], args := [d1, d2] }
  | _ => none }
def DependRepeatsWrongFalsely : Prop := dependRepeatsRow.holds Try.pinned (OpenSpec.ofChange dependRepeatsWrong)

/-- 'euclidlaw46.DependMirrors': WHATEVER THE INPUT: true; the input reads as it did. -/
def dependMirrorsSpec : ChangeSpec := { name := "dependMirrors", fn := fun _ => fun
  | [d1, d2, d3] => { results := [.lit (.bool true)], args := [d1, d2, d3] }
  | _ => none }
def dependMirrorsRow : OpenClaim := { program := "ytijcchddnnnmdaa", sum := "7048a93873d5e9d017c9653d2f72fc46aaa07af8a7a8451e49470925d6e381d2", func := "euclid/euclidlaw46.DependMirrors", spec := "dependMirrors", unfollowed := true, recurses := true, loops := true, apart := false }
def DependMirrorsSaid : Prop := dependMirrorsRow.holds Try.pinned (OpenSpec.ofChange dependMirrorsSpec)

/-- ITS FALSE NEIGHBOUR: 'it returns false'. Refute it at one input. -/
def dependMirrorsWrong : ChangeSpec := { name := "dependMirrors", fn := fun _ => fun
  | [d1, d2, d3] => { results := [.lit (.bool false)], args := [d1, d2, d3] }
  | _ => none }
def DependMirrorsWrongFalsely : Prop := dependMirrorsRow.holds Try.pinned (OpenSpec.ofChange dependMirrorsWrong)

/-- 'euclidlaw46.DependSorts': WHATEVER THE INPUT: true; the input reads as it did. -/
def dependSortsSpec : ChangeSpec := { name := "dependSorts", fn := fun _ => fun
  | [d] => { results := [.lit (.bool true)], args := [d] }
  | _ => none }
def dependSortsRow : OpenClaim := { program := "ytijcchddnnnmdaa", sum := "7048a93873d5e9d017c9653d2f72fc46aaa07af8a7a8451e49470925d6e381d2", func := "euclid/euclidlaw46.DependSorts", spec := "dependSorts", unfollowed := true, recurses := true, loops := true, apart := false }
def DependSortsSaid : Prop := dependSortsRow.holds Try.pinned (OpenSpec.ofChange dependSortsSpec)

/-- ITS FALSE NEIGHBOUR: 'it returns false'. Refute it at one input. -/
def dependSortsWrong : ChangeSpec := { name := "dependSorts", fn := fun _ => fun
  | [d] => { results := [.lit (.bool false)], args := [d] }
  | _ => none }
def DependSortsWrongFalsely : Prop := dependSortsRow.holds Try.pinned (OpenSpec.ofChange dependSortsWrong)

/-- 'euclidlaw46.DependGraphs': WHATEVER THE INPUT: true; the input reads as it did. -/
def dependGraphsSpec : ChangeSpec := { name := "dependGraphs", fn := fun _ => fun
  | [d] => { results := [.lit (.bool true)], args := [d] }
  | _ => none }
def dependGraphsRow : OpenClaim := { program := "ytijcchddnnnmdaa", sum := "7048a93873d5e9d017c9653d2f72fc46aaa07af8a7a8451e49470925d6e381d2", func := "euclid/euclidlaw46.DependGraphs", spec := "dependGraphs", unfollowed := true, recurses := true, loops := true, apart := false }
def DependGraphsSaid : Prop := dependGraphsRow.holds Try.pinned (OpenSpec.ofChange dependGraphsSpec)

/-- ITS FALSE NEIGHBOUR: 'it returns false'. Refute it at one input. -/
def dependGraphsWrong : ChangeSpec := { name := "dependGraphs", fn := fun _ => fun
  | [d] => { results := [.lit (.bool false)], args := [d] }
  | _ => none }
def DependGraphsWrongFalsely : Prop := dependGraphsRow.holds Try.pinned (OpenSpec.ofChange dependGraphsWrong)

/- THE SECOND FORM. 'bulk': how many values and letters a reading holds, each counted each time it is reached (what is shared counts as often as it is met; a slice's spare places count too). A statement '..UptoSaid' is the law's where the arguments, and the package variables that the reading takes, are together of bulk at most 1048576: NARROWER than '..Said'. Prove '..Said' where nothing that the law and all that it calls make is longer than what came in: it says more and counts as full. Else prove '..UptoSaid'. A law counts once. -/
mutual
def uptoBulk {H : Type} : DataW H → Nat
  | .lit (.string bytes) => bytes.length + 1
  | .lit _ => 1
  | .nil => 1
  | .ptr d => uptoBulk d + 1
  | .slice elems spare => uptoBulkAll elems + uptoBulkAll spare + 1
  | .agg parts => uptoBulkAll parts + 1
  | .iface _ d => uptoBulk d + 1
  | .map entries => uptoBulkEntries entries + 1
  | .held _ => 1
def uptoBulkAll {H : Type} : List (DataW H) → Nat
  | [] => 0
  | d :: r => uptoBulk d + uptoBulkAll r
def uptoBulkEntries {H : Type} : List (Lit × DataW H) → Nat
  | [] => 0
  | x :: r => uptoBulkEntry x + uptoBulkEntries r
def uptoBulkEntry {H : Type} : Lit × DataW H → Nat
  | (.string bytes, d) => bytes.length + uptoBulk d + 1
  | (_, d) => uptoBulk d + 1
 end
def uptoSmall : (H : Type) → List (DataW H) → Bool := fun _ ds => decide (uptoBulkAll ds ≤ 1048576)
def OpenSpec.upto (s : _root_.Go.ChangeSpec) : _root_.Go.OpenSpec := { _root_.Go.OpenSpec.ofChange s with cond := some uptoSmall }

/-- 'euclidlaw46.DependAffects', WHERE WHAT IT READS IS OF BULK AT MOST 1048576: true; the input reads as it did. -/
def dependAffectsUptoRow : OpenClaim := { program := "ytijcchddnnnmdaa", sum := "7048a93873d5e9d017c9653d2f72fc46aaa07af8a7a8451e49470925d6e381d2", func := "euclid/euclidlaw46.DependAffects", spec := "dependAffects", unfollowed := true, recurses := true, loops := true, apart := false, narrowed := true }
def DependAffectsUptoSaid : Prop := dependAffectsUptoRow.holds Try.pinned (OpenSpec.upto dependAffectsSpec)

/-- 'euclidlaw46.DependNeeds', WHERE WHAT IT READS IS OF BULK AT MOST 1048576: true; the input reads as it did. -/
def dependNeedsUptoRow : OpenClaim := { program := "ytijcchddnnnmdaa", sum := "7048a93873d5e9d017c9653d2f72fc46aaa07af8a7a8451e49470925d6e381d2", func := "euclid/euclidlaw46.DependNeeds", spec := "dependNeeds", unfollowed := true, recurses := true, loops := true, apart := false, narrowed := true }
def DependNeedsUptoSaid : Prop := dependNeedsUptoRow.holds Try.pinned (OpenSpec.upto dependNeedsSpec)

/-- 'euclidlaw46.DependRepeats', WHERE WHAT IT READS IS OF BULK AT MOST 1048576: true; the input reads as it did. -/
def dependRepeatsUptoRow : OpenClaim := { program := "ytijcchddnnnmdaa", sum := "7048a93873d5e9d017c9653d2f72fc46aaa07af8a7a8451e49470925d6e381d2", func := "euclid/euclidlaw46.DependRepeats", spec := "dependRepeats", unfollowed := true, recurses := true, loops := true, apart := false, narrowed := true }
def DependRepeatsUptoSaid : Prop := dependRepeatsUptoRow.holds Try.pinned (OpenSpec.upto dependRepeatsSpec)

/-- 'euclidlaw46.DependMirrors', WHERE WHAT IT READS IS OF BULK AT MOST 1048576: true; the input reads as it did. -/
def dependMirrorsUptoRow : OpenClaim := { program := "ytijcchddnnnmdaa", sum := "7048a93873d5e9d017c9653d2f72fc46aaa07af8a7a8451e49470925d6e381d2", func := "euclid/euclidlaw46.DependMirrors", spec := "dependMirrors", unfollowed := true, recurses := true, loops := true, apart := false, narrowed := true }
def DependMirrorsUptoSaid : Prop := dependMirrorsUptoRow.holds Try.pinned (OpenSpec.upto dependMirrorsSpec)

/-- 'euclidlaw46.DependSorts', WHERE WHAT IT READS IS OF BULK AT MOST 1048576: true; the input reads as it did. -/
def dependSortsUptoRow : OpenClaim := { program := "ytijcchddnnnmdaa", sum := "7048a93873d5e9d017c9653d2f72fc46aaa07af8a7a8451e49470925d6e381d2", func := "euclid/euclidlaw46.DependSorts", spec := "dependSorts", unfollowed := true, recurses := true, loops := true, apart := false, narrowed := true }
def DependSortsUptoSaid : Prop := dependSortsUptoRow.holds Try.pinned (OpenSpec.upto dependSortsSpec)

/-- 'euclidlaw46.DependGraphs', WHERE WHAT IT READS IS OF BULK AT MOST 1048576: true; the input reads as it did. -/
def dependGraphsUptoRow : OpenClaim := { program := "ytijcchddnnnmdaa", sum := "7048a93873d5e9d017c9653d2f72fc46aaa07af8a7a8451e49470925d6e381d2", func := "euclid/euclidlaw46.DependGraphs", spec := "dependGraphs", unfollowed := true, recurses := true, loops := true, apart := false, narrowed := true }
def DependGraphsUptoSaid : Prop := dependGraphsUptoRow.holds Try.pinned (OpenSpec.upto dependGraphsSpec)

end Rows
end Go.Proofs.Ytijcchddnnnmdaa
