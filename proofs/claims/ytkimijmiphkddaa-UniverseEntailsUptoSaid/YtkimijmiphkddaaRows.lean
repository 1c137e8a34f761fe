/-
  No cell of these rows narrows 'for every input' (looked for: loops, veiled, ifaces, maps, wideKeys, modest, calm, conditions, laid).
  DERIVED. THE GIVEN ROWS OF THIS SEAT. 8 by the template 'for every input the law returns true; each argument reads behind the call as it read before'; 0 by the template 'total and deterministic' (their statements: YtkimijmiphkddaaTotals.lean).
  GIVEN WITH THE SEED: the statements are not yours to turn. If you find one false, say at which input.
  Laid BY PROGRAM, IN A SANDBOX (cutbox-rows.mjs): the forced cells as the released guide's own fill.sh prints them over the translation 26eda8d3d78c147d… (all of the seat's roots in one cut). By AI agents, Wed Nov 11 2026. No macro, syntax, notation, axiom, sorry.
-/
import Derived.Test.YtkimijmiphkddaaChecked
import GoSem.Claim
import GoSem.ClaimJoined
import GoSem.ClaimMapViews
import Derived.JoinedTies
import Derived.KernelRfl
namespace Go.Proofs.Ytkimijmiphkddaa
/- THE CELL 'sum', in the pinned program and in every row, IS THE sha256 OF THE DUMP (.gsa) THAT YtkimijmiphkddaaProg.lean LOADS. Nothing in Lean hashes anything: it is a label: what it is worth is what the hold of that sum in a sandbox is worth. -/
noncomputable def Try.pinned : Pinned := { name := "ytkimijmiphkddaa", sum := "26eda8d3d78c147d3fd16e734a4b9e50eb0c7d5133482c3aac3807451fc33bb8", checked := Try.checked }
namespace Rows
def none {H : Type} : Left H := { results := [], args := [] }

/-- 'euclidlaw02.UniverseChecks': WHATEVER THE INPUT: true; the input reads as it did. -/
def universeChecksSpec : ChangeSpec := { name := "universeChecks", fn := fun _ => fun
  | [d1, d2] => { results := [.lit (.bool true)], args := [d1, d2] }
  | _ => none }
def universeChecksRow : OpenClaim := { program := "ytkimijmiphkddaa", sum := "26eda8d3d78c147d3fd16e734a4b9e50eb0c7d5133482c3aac3807451fc33bb8", func := "euclid/euclidlaw02.UniverseChecks", spec := "universeChecks", unfollowed := true, recurses := true, apart := false }
def UniverseChecksSaid : Prop := universeChecksRow.holds Try.pinned (OpenSpec.ofChange universeChecksSpec)

/-- ITS FALSE NEIGHBOUR: 'it returns false'. Refute it at one input. -/
def universeChecksWrong : ChangeSpec := { name := "universeChecks", fn := fun _ => fun
  | [d1, d2] => { results := [.lit (.bool false)], args := [d1, d2] }
  | _ => none }
def UniverseChecksWrongFalsely : Prop := universeChecksRow.holds Try.pinned (OpenSpec.ofChange universeChecksWrong)

/-- 'euclidlaw02.UniverseSolves': WHATEVER THE INPUT: true; the input reads as it did. -/
def universeSolvesSpec : ChangeSpec := { name := "universeSolves", fn := fun _ => fun
  | [d1, d2] => { results := [.lit (.bool true)], args := [d1, d2] }
  | _ => none }
def universeSolvesRow : OpenClaim := { program := "ytkimijmiphkddaa", sum := "26eda8d3d78c147d3fd16e734a4b9e50eb0c7d5133482c3aac3807451fc33bb8", func := "euclid/euclidlaw02.UniverseSolves", spec := "universeSolves", unfollowed := true, recurses := true, apart := false }
def UniverseSolvesSaid : Prop := universeSolvesRow.holds Try.pinned (OpenSpec.ofChange universeSolvesSpec)

/-- ITS FALSE NEIGHBOUR: 'it returns false'. Refute it at one input. -/
def universeSolvesWrong : ChangeSpec := { name := "universeSolves", fn := fun _ => fun
  | [d1, d2] => { results := [.lit (.bool false)], args := [d1, d2] }
  | _ => none }
def UniverseSolvesWrongFalsely : Prop := universeSolvesRow.holds Try.pinned (OpenSpec.ofChange universeSolvesWrong)

/-- 'euclidlaw02.UniverseEntails': WHATEVER THE INPUT: true; the input reads as it did. -/
def universeEntailsSpec : ChangeSpec := { name := "universeEntails", fn := fun _ => fun
  | [d1, d2] => { results := [.lit (.bool true)], args := [d1, d2] }
  | _ => none }
def universeEntailsRow : OpenClaim := { program := "ytkimijmiphkddaa", sum := "26eda8d3d78c147d3fd16e734a4b9e50eb0c7d5133482c3aac3807451fc33bb8", func := "euclid/euclidlaw02.UniverseEntails", spec := "universeEntails", unfollowed := true, recurses := true, apart := false }
def UniverseEntailsSaid : Prop := universeEntailsRow.holds Try.pinned (OpenSpec.ofChange universeEntailsSpec)

/-- ITS FALSE NEIGHBOUR: 'it returns false'. Refute it at one input. -/
def universeEntailsWrong : ChangeSpec := { name := "universeEntails", fn := fun _ => fun
  | [d1, d2] => { results := [.lit (.bool false)], args := [d1, d2] }
  | _ => none }
def UniverseEntailsWrongFalsely : Prop := universeEntailsRow.holds Try.pinned (OpenSpec.ofChange universeEntailsWrong)

/-- 'euclidlaw02.UniverseRefutes': WHATEVER THE INPUT: true; the input reads as it did. -/
def universeRefutesSpec : ChangeSpec := { name := "universeRefutes", fn := fun _ => fun
  | [d1, d2] => { results := [.lit (.bool true)], args := [d1, d2] }
  | _ => none }
def universeRefutesRow : OpenClaim := { program := "ytkimijmiphkddaa", sum := "26eda8d3d78c147d3fd16e734a4b9e50eb0c7d5133482c3aac3807451fc33bb8", func := "euclid/euclidlaw02.UniverseRefutes", spec := "universeRefutes", unfollowed := true, recurses := true, apart := false }
def UniverseRefutesSaid : Prop := universeRefutesRow.holds Try.pinned (OpenSpec.ofChange universeRefutesSpec)

/-- ITS FALSE NEIGHBOUR: 'it returns false'. Refute it at one input. -/
def universeRefutesWrong : ChangeSpec := { name := "universeRefutes", fn := fun _ => fun
  | [d1, d2] => { results := [.lit (.bool false)], args := [d1, d2] }
  | _ => none }
def UniverseRefutesWrongFalsely : Prop := universeRefutesRow.holds Try.pinned (OpenSpec.ofChange universeRefutesWrong)

/-- 'euclidlaw02.UniverseOrders': WHATEVER THE INPUT: true; the input reads as it did. -/
def universeOrdersSpec : ChangeSpec := { name := "universeOrders", fn := fun _ => fun
  | [d1, d2, d3] => { results := [.lit (.bool true)], args := [d1, d2, d3] }
  | _ => none }
def universeOrdersRow : OpenClaim := { program := "ytkimijmiphkddaa", sum := "26eda8d3d78c147d3fd16e734a4b9e50eb0c7d5133482c3aac3807451fc33bb8", func := "euclid/euclidlaw02.UniverseOrders", spec := "universeOrders", unfollowed := true, recurses := true, apart := false }
def UniverseOrdersSaid : Prop := universeOrdersRow.holds Try.pinned (OpenSpec.ofChange universeOrdersSpec)

/-- ITS FALSE NEIGHBOUR: 'it returns false'. Refute it at one input. -/
def universeOrdersWrong : ChangeSpec := { name := "universeOrders", fn := fun _ => fun
  | [d1, d2, d3] => { results := [.lit (.bool false)], args := [d1, d2, d3] }
  | _ => none }
def UniverseOrdersWrongFalsely : Prop := universeOrdersRow.holds Try.pinned (OpenSpec.ofChange universeOrdersWrong)

/-- 'euclidlaw02.UniverseHolds': WHATEVER THE INPUT: true; the input reads as it did. -/
def universeHoldsSpec : ChangeSpec := { name := "universeHolds", fn := fun _ => fun
  | [d1, d2] => { results := [.lit (.bool true)], args := [d1, d2] }
  | _ => none }
def universeHoldsRow : OpenClaim := { program := "ytkimijmiphkddaa", sum := "26eda8d3d78c147d3fd16e734a4b9e50eb0c7d5133482c3aac3807451fc33bb8", func := "euclid/euclidlaw02.UniverseHolds", spec := "universeHolds", unfollowed := true, recurses := true, apart := false }
def UniverseHoldsSaid : Prop := universeHoldsRow.holds Try.pinned (OpenSpec.ofChange universeHoldsSpec)

/-- ITS FALSE NEIGHBOUR: 'it returns false'. Refute it at one input. -/
def universeHoldsWrong : ChangeSpec := { name := "universeHolds", fn := fun _ => fun
  | [d1, d2] => { results := [.lit (.bool false)], args := [d1, d2] }
  | _ => none }
def UniverseHoldsWrongFalsely : Prop := universeHoldsRow.holds Try.pinned (OpenSpec.ofChange universeHoldsWrong)

/-- 'euclidlaw02.UniverseSolutions': WHATEVER THE INPUT: true; the input reads as it did. -/
def universeSolutionsSpec : ChangeSpec := { name := "universeSolutions", fn := fun _ => fun
  | [d1, d2] => { results := [.lit (.bool true)], args := [d1, d2] }
  | _ => none }
def universeSolutionsRow : OpenClaim := { program := "ytkimijmiphkddaa", sum := "26eda8d3d78c147d3fd16e734a4b9e50eb0c7d5133482c3aac3807451fc33bb8", func := "euclid/euclidlaw02.UniverseSolutions", spec := "universeSolutions", unfollowed := true, recurses := true, apart := false }
def UniverseSolutionsSaid : Prop := universeSolutionsRow.holds Try.pinned (OpenSpec.ofChange universeSolutionsSpec)

/-- ITS FALSE NEIGHBOUR: 'it returns false'. Refute it at one input. -/
def universeSolutionsWrong : ChangeSpec := { name := "universeSolutions", fn := fun _ => fun
  | [d1, d2] => { results := [.lit (.bool false)], args := [d1, d2] }
  | _ => none }
def UniverseSolutionsWrongFalsely : Prop := universeSolutionsRow.holds Try.pinned (OpenSpec.ofChange universeSolutionsWrong)

/-- 'euclidlaw02.UniverseLeast': WHATEVER THE INPUT: true; the input reads as it did. -/
def universeLeastSpec : ChangeSpec := { name := "universeLeast", fn := fun _ => fun
  | [d1, d2] => { results := [.lit (.bool true)], args := [d1, d2] }
  | _ => none }
def universeLeastRow : OpenClaim := { program := "ytkimijmiphkddaa", sum := "26eda8d3d78c147d3fd16e734a4b9e50eb0c7d5133482c3aac3807451fc33bb8", func := "euclid/euclidlaw02.UniverseLeast", spec := "universeLeast", unfollowed := true, recurses := true, apart := false }
def UniverseLeastSaid : Prop := universeLeastRow.holds Try.pinned (OpenSpec.ofChange universeLeastSpec)

/-- ITS FALSE NEIGHBOUR: 'it returns false'. Refute it at one input. -/
def universeLeastWrong : ChangeSpec := { name := "universeLeast", fn := fun _ => fun
  | [d1, d2] => { results := [.lit (.bool false)], args := [d1, d2] }
  | _ => none }
def UniverseLeastWrongFalsely : Prop := universeLeastRow.holds Try.pinned (OpenSpec.ofChange universeLeastWrong)

/- THE SECOND FORM. 'bulk': how many values and letters a reading holds, each counted each time it is reached (what is shared counts as often as it is met; a slice's spare places count too). A statement '..UptoSaid' is the law's where the arguments, and the package variables that the reading takes, are together of bulk at most 1048576: NARROWER than '..Said'. Prove '..Said' where nothing that the law and all that it calls make is longer than what came in: it says more and counts as full. Else prove '..UptoSaid'. A law counts once. -/
mutual
def uptoBulk {H : Type} : DataW H → Nat
  | .lit (.string bytes) => bytes.length + 1
  | .lit _ => 1
  | .nil => 1
  | .ptr d => uptoBulk d + 1
  | .slice elems spare => uptoBulkAll elems + uptoBulkAll spare + 1
  | .agg parts => uptoBulkAll parts + 1
  | .iface _ d => uptoBulk d + 1
  | .map entries => uptoBulkEntries entries + 1
  | .held _ => 1
def uptoBulkAll {H : Type} : List (DataW H) → Nat
  | [] => 0
  | d :: r => uptoBulk d + uptoBulkAll r
def uptoBulkEntries {H : Type} : List (Lit × DataW H) → Nat
  | [] => 0
  | x :: r => uptoBulkEntry x + uptoBulkEntries r
def uptoBulkEntry {H : Type} : Lit × DataW H → Nat
  | (.string bytes, d) => bytes.length + uptoBulk d + 1
  | (_, d) => uptoBulk d + 1
 end
def uptoSmall : (H : Type) → List (DataW H) → Bool := fun _ ds => decide (uptoBulkAll ds ≤ 1048576)
def OpenSpec.upto (s : _root_.Go.ChangeSpec) : _root_.Go.OpenSpec := { _root_.Go.OpenSpec.ofChange s with cond := some uptoSmall }

/-- 'euclidlaw02.UniverseChecks', WHERE WHAT IT READS IS OF BULK AT MOST 1048576: true; the input reads as it did. -/
def universeChecksUptoRow : OpenClaim := { program := "ytkimijmiphkddaa", sum := "26eda8d3d78c147d3fd16e734a4b9e50eb0c7d5133482c3aac3807451fc33bb8", func := "euclid/euclidlaw02.UniverseChecks", spec := "universeChecks", unfollowed := true, recurses := true, apart := false, narrowed := true }
def UniverseChecksUptoSaid : Prop := universeChecksUptoRow.holds Try.pinned (OpenSpec.upto universeChecksSpec)

/-- 'euclidlaw02.UniverseSolves', WHERE WHAT IT READS IS OF BULK AT MOST 1048576: true; the input reads as it did. -/
def universeSolvesUptoRow : OpenClaim := { program := "ytkimijmiphkddaa", sum := "26eda8d3d78c147d3fd16e734a4b9e50eb0c7d5133482c3aac3807451fc33bb8", func := "euclid/euclidlaw02.UniverseSolves", spec := "universeSolves", unfollowed := true, recurses := true, apart := false, narrowed := true }
def UniverseSolvesUptoSaid : Prop := universeSolvesUptoRow.holds Try.pinned (OpenSpec.upto universeSolvesSpec)

/-- 'euclidlaw02.UniverseEntails', WHERE WHAT IT READS IS OF BULK AT MOST 1048576: true; the input reads as it did. -/
def universeEntailsUptoRow : OpenClaim := { program := "ytkimijmiphkddaa", sum := "26eda8d3d78c147d3fd16e734a4b9e50eb0c7d5133482c3aac3807451fc33bb8", func := "euclid/euclidlaw02.UniverseEntails", spec := "universeEntails", unfollowed := true, recurses := true, apart := false, narrowed := true }
def UniverseEntailsUptoSaid : Prop := universeEntailsUptoRow.holds Try.pinned (OpenSpec.upto universeEntailsSpec)

/-- 'euclidlaw02.UniverseRefutes', WHERE WHAT IT READS IS OF BULK AT MOST 1048576: true; the input reads as it did. -/
def universeRefutesUptoRow : OpenClaim := { program := "ytkimijmiphkddaa", sum := "26eda8d3d78c147d3fd16e734a4b9e50eb0c7d5133482c3aac3807451fc33bb8", func := "euclid/euclidlaw02.UniverseRefutes", spec := "universeRefutes", unfollowed := true, recurses := true, apart := false, narrowed := true }
def UniverseRefutesUptoSaid : Prop := universeRefutesUptoRow.holds Try.pinned (OpenSpec.upto universeRefutesSpec)

/-- 'euclidlaw02.UniverseOrders', WHERE WHAT IT READS IS OF BULK AT MOST 1048576: true; the input reads as it did. -/
def universeOrdersUptoRow : OpenClaim := { program := "ytkimijmiphkddaa", sum := "26eda8d3d78c147d3fd16e734a4b9e50eb0c7d5133482c3aac3807451fc33bb8", func := "euclid/euclidlaw02.UniverseOrders", spec := "universeOrders", unfollowed := true, recurses := true, apart := false, narrowed := true }
def UniverseOrdersUptoSaid : Prop := universeOrdersUptoRow.holds Try.pinned (OpenSpec.upto universeOrdersSpec)

/-- 'euclidlaw02.UniverseHolds', WHERE WHAT IT READS IS OF BULK AT MOST 1048576: true; the input reads as it did. -/
def universeHoldsUptoRow : OpenClaim := { program := "ytkimijmiphkddaa", sum := "26eda8d3d78c147d3fd16e734a4b9e50eb0c7d5133482c3aac3807451fc33bb8", func := "euclid/euclidlaw02.UniverseHolds", spec := "universeHolds", unfollowed := true, recurses := true, apart := false, narrowed := true }
def UniverseHoldsUptoSaid : Prop := universeHoldsUptoRow.holds Try.pinned (OpenSpec.upto universeHoldsSpec)

/-- 'euclidlaw02.UniverseSolutions', WHERE WHAT IT READS IS OF BULK AT MOST 1048576: true; the input reads as it did. -/
def universeSolutionsUptoRow : OpenClaim := { program := "ytkimijmiphkddaa", sum := "26eda8d3d78c147d3fd16e734a4b9e50eb0c7d5133482c3aac3807451fc33bb8", func := "euclid/euclidlaw02.UniverseSolutions", spec := "universeSolutions", unfollowed := true, recurses := true, apart := false, narrowed := true }
def UniverseSolutionsUptoSaid : Prop := universeSolutionsUptoRow.holds Try.pinned (OpenSpec.upto universeSolutionsSpec)

/-- 'euclidlaw02.UniverseLeast', WHERE WHAT IT READS IS OF BULK AT MOST 1048576: true; the input reads as it did. -/
def universeLeastUptoRow : OpenClaim := { program := "ytkimijmiphkddaa", sum := "26eda8d3d78c147d3fd16e734a4b9e50eb0c7d5133482c3aac3807451fc33bb8", func := "euclid/euclidlaw02.UniverseLeast", spec := "universeLeast", unfollowed := true, recurses := true, apart := false, narrowed := true }
def UniverseLeastUptoSaid : Prop := universeLeastUptoRow.holds Try.pinned (OpenSpec.upto universeLeastSpec)

end Rows
end Go.Proofs.Ytkimijmiphkddaa
