/-
  NARROWER THAN 'FOR EVERY INPUT', by the rows' own cells (each row's printed sentence says how): SignatureChecks: loops · SignatureFinds: loops · SignatureBegins: loops · SignatureExtends: loops · SignatureNames: loops · SignatureCovers: loops.
  DERIVED. THE GIVEN ROWS OF THIS SEAT. 6 by the template 'for every input the law returns true; each argument reads behind the call as it read before'; 0 by the template 'total and deterministic' (their statements: YtafddfoefeploaaTotals.lean).
  GIVEN WITH THE SEED: the statements are not yours to turn. If you find one false, say at which input.
  Laid BY PROGRAM, IN A SANDBOX (cutbox-rows.mjs): the forced cells as the released guide's own fill.sh prints them over the translation 28591a88b159bcb0… (all of the seat's roots in one cut). By AI agents, Wed Nov 11 2026. No macro, syntax, notation, axiom, sorry.
-/
import Derived.Test.YtafddfoefeploaaChecked
import GoSem.Claim
import GoSem.ClaimJoined
import GoSem.ClaimMapViews
import Derived.JoinedTies
import Derived.KernelRfl
namespace Go.Proofs.Ytafddfoefeploaa
/- THE CELL 'sum', in the pinned program and in every row, IS THE sha256 OF THE DUMP (.gsa) THAT YtafddfoefeploaaProg.lean LOADS. Nothing in Lean hashes anything: it is a label: what it is worth is what the hold of that sum in a sandbox is worth. -/
noncomputable def Try.pinned : Pinned := { name := "ytafddfoefeploaa", sum := "28591a88b159bcb07289818ed8fbd620c473d7b00a90df53b418e15902e25e1b", checked := Try.checked }
namespace Rows
def none {H : Type} : Left H := { results := [], args := [] }

/-- 'euclidlaw07.SignatureChecks': WHATEVER THE INPUT: true; the input reads as it did. -/
def signatureChecksSpec : ChangeSpec := { name := "signatureChecks", fn := fun _ => fun
  | [d] => { results := [.lit (.bool true)], args := [d] }
  | _ => none }
def signatureChecksRow : OpenClaim := { program := "ytafddfoefeploaa", sum := "28591a88b159bcb07289818ed8fbd620c473d7b00a90df53b418e15902e25e1b", func := "euclid/euclidlaw07.SignatureChecks", spec := "signatureChecks", unfollowed := true, recurses := true, loops := true, apart := false }
def SignatureChecksSaid : Prop := signatureChecksRow.holds Try.pinned (OpenSpec.ofChange signatureChecksSpec)

/-- ITS FALSE NEIGHBOUR: 'it returns false'. Refute it at one input. -/
def signatureChecksWrong : ChangeSpec := { name := "signatureChecks", fn := fun _ => fun
  | [d] => { results := [.lit (.bool false)], args := [d] }
  | _ => none }
def SignatureChecksWrongFalsely : Prop := signatureChecksRow.holds Try.pinned (OpenSpec.ofChange signatureChecksWrong)

/-- 'euclidlaw07.SignatureFinds': WHATEVER THE INPUT: true; the input reads as it did. -/
def signatureFindsSpec : ChangeSpec := { name := "signatureFinds", fn := fun _ => fun
  | [d1, d2] => { results := [.lit (.bool true)], args := [d1, d2] }
  | _ => none }
def signatureFindsRow : OpenClaim := { program := "ytafddfoefeploaa", sum := "28591a88b159bcb07289818ed8fbd620c473d7b00a90df53b418e15902e25e1b", func := "euclid/euclidlaw07.SignatureFinds", spec := "signatureFinds", unfollowed := true, recurses := true, loops := true, apart := false }
def SignatureFindsSaid : Prop := signatureFindsRow.holds Try.pinned (OpenSpec.ofChange signatureFindsSpec)

/-- ITS FALSE NEIGHBOUR: 'it returns false'. Refute it at one input. -/
def signatureFindsWrong : ChangeSpec := { name := "signatureFinds", fn := fun _ => fun
  | [d1, d2] => { results := [.lit (.bool false)], args := [d1, d2] }
  | _ => none }
def SignatureFindsWrongFalsely : Prop := signatureFindsRow.holds Try.pinned (OpenSpec.ofChange signatureFindsWrong)

/-- 'euclidlaw07.SignatureBegins': WHATEVER THE INPUT: true; the input reads as it did. -/
def signatureBeginsSpec : ChangeSpec := { name := "signatureBegins", fn := fun _ => fun
  | [d] => { results := [.lit (.bool true)], args := [d] }
  | _ => none }
def signatureBeginsRow : OpenClaim := { program := "ytafddfoefeploaa", sum := "28591a88b159bcb07289818ed8fbd620c473d7b00a90df53b418e15902e25e1b", func := "euclid/euclidlaw07.SignatureBegins", spec := "signatureBegins", unfollowed := true, recurses := true, loops := true, apart := false }
def SignatureBeginsSaid : Prop := signatureBeginsRow.holds Try.pinned (OpenSpec.ofChange signatureBeginsSpec)

/-- ITS FALSE NEIGHBOUR: 'it returns false'. Refute it at one input. -/
def signatureBeginsWrong : ChangeSpec := { name := "signatureBegins", fn := fun _ => fun
  | [d] => { results := [.lit (.bool false)], args := [d] }
  | _ => none }
def SignatureBeginsWrongFalsely : Prop := signatureBeginsRow.holds Try.pinned (OpenSpec.ofChange signatureBeginsWrong)

/-- 'euclidlaw07.SignatureExtends': WHATEVER THE INPUT: true; the input reads as it did. -/
def signatureExtendsSpec : ChangeSpec := { name := "signatureExtends", fn := fun _ => fun
  | [d1, d2] => { results := [.lit (.bool true)], args := [d1, d2] }
  | _ => none }
def signatureExtendsRow : OpenClaim := { program := "ytafddfoefeploaa", sum := "28591a88b159bcb07289818ed8fbd620c473d7b00a90df53b418e15902e25e1b", func := "euclid/euclidlaw07.SignatureExtends", spec := "signatureExtends", unfollowed := true, recurses := true, loops := true, apart := false }
def SignatureExtendsSaid : Prop := signatureExtendsRow.holds Try.pinned (OpenSpec.ofChange signatureExtendsSpec)

/-- ITS FALSE NEIGHBOUR: 'it returns false'. Refute it at one input. -/
def signatureExtendsWrong : ChangeSpec := { name := "signatureExtends", fn := fun _ => fun
  | [d1, d2] => { results := [.lit (.bool false)], args := [d1, d2] }
  | _ => none }
def SignatureExtendsWrongFalsely : Prop := signatureExtendsRow.holds Try.pinned (OpenSpec.ofChange signatureExtendsWrong)

/-- 'euclidlaw07.SignatureNames': WHATEVER THE INPUT: true; the input reads as it did. -/
def signatureNamesSpec : ChangeSpec := { name := "signatureNames", fn := fun _ => fun
  | [d] => { results := [.lit (.bool true)], args := [d] }
  | _ => none }
def signatureNamesRow : OpenClaim := { program := "ytafddfoefeploaa", sum := "28591a88b159bcb07289818ed8fbd620c473d7b00a90df53b418e15902e25e1b", func := "euclid/euclidlaw07.SignatureNames", spec := "signatureNames", unfollowed := true, recurses := true, loops := true, apart := false }
def SignatureNamesSaid : Prop := signatureNamesRow.holds Try.pinned (OpenSpec.ofChange signatureNamesSpec)

/-- ITS FALSE NEIGHBOUR: 'it returns false'. Refute it at one input. -/
def signatureNamesWrong : ChangeSpec := { name := "signatureNames", fn := fun _ => fun
  | [d] => { results := [.lit (.bool false)], args := [d] }
  | _ => none }
def SignatureNamesWrongFalsely : Prop := signatureNamesRow.holds Try.pinned (OpenSpec.ofChange signatureNamesWrong)

/-- 'euclidlaw07.SignatureCovers': WHATEVER THE INPUT: true; the input reads as it did. -/
def signatureCoversSpec : ChangeSpec := { name := "signatureCovers", fn := fun _ => fun
  | [d] => { results := [.lit (.bool true)], args := [d] }
  | _ => none }
def signatureCoversRow : OpenClaim := { program := "ytafddfoefeploaa", sum := "28591a88b159bcb07289818ed8fbd620c473d7b00a90df53b418e15902e25e1b", func := "euclid/euclidlaw07.SignatureCovers", spec := "signatureCovers", unfollowed := true, recurses := true, loops := true, apart := false }
def SignatureCoversSaid : Prop := signatureCoversRow.holds Try.pinned (OpenSpec.ofChange signatureCoversSpec)

/-- ITS FALSE NEIGHBOUR: 'it returns false'. Refute it at one input. -/
def signatureCoversWrong : ChangeSpec := { name := "signatureCovers", fn := fun _ => fun
  | [d] => { results := [.lit (.bool false)], args := [d] }
  | _ => none }
def SignatureCoversWrongFalsely : Prop := signatureCoversRow.holds Try.pinned (OpenSpec.ofChange signatureCoversWrong)

/- THE SECOND FORM. 'bulk': how many values and letters a reading holds, each counted each time it is reached (what is shared counts as often as it is met; a slice's spare places count too). A statement '..UptoSaid' is the law's where the arguments, and the package variables that the reading takes, are together of bulk at most 1048576: NARROWER than '..Said'. Prove '..Said' where nothing that the law and all that it calls make is longer than what came in: it says more and counts as full. Else prove '..UptoSaid'. A law counts once. -/
mutual
def uptoBulk {H : Type} : DataW H → Nat
  | .lit (.string bytes) => bytes.length + 1
  | .lit _ => 1
  | .nil => 1
  | .ptr d => uptoBulk d + 1
  | .slice elems spare => uptoBulkAll elems + uptoBulkAll spare + 1
  | .agg parts => uptoBulkAll parts + 1
  | .iface _ d => uptoBulk d + 1
  | .map entries => uptoBulkEntries entries + 1
  | .held _ => 1
def uptoBulkAll {H : Type} : List (DataW H) → Nat
  | [] => 0
  | d :: r => uptoBulk d + uptoBulkAll r
def uptoBulkEntries {H : Type} : List (Lit × DataW H) → Nat
  | [] => 0
  | x :: r => uptoBulkEntry x + uptoBulkEntries r
def uptoBulkEntry {H : Type} : Lit × DataW H → Nat
  | (.string bytes, d) => bytes.length + uptoBulk d + 1
  | (_, d) => uptoBulk d + 1
 end
def uptoSmall : (H : Type) → List (DataW H) → Bool := fun _ ds => decide (uptoBulkAll ds ≤ 1048576)
def OpenSpec.upto (s : _root_.Go.ChangeSpec) : _root_.Go.OpenSpec := { _root_.Go.OpenSpec.ofChange s with cond := some uptoSmall }

/-- 'euclidlaw07.SignatureChecks', WHERE WHAT IT READS IS OF BULK AT MOST 1048576: true; the input reads as it did. -/
def signatureChecksUptoRow : OpenClaim := { program := "ytafddfoefeploaa", sum := "28591a88b159bcb07289818ed8fbd620c473d7b00a90df53b418e15902e25e1b", func := "euclid/euclidlaw07.SignatureChecks", spec := "signatureChecks", unfollowed := true, recurses := true, loops := true, apart := false, narrowed := true }
def SignatureChecksUptoSaid : Prop := signatureChecksUptoRow.holds Try.pinned (OpenSpec.upto signatureChecksSpec)

/-- 'euclidlaw07.SignatureFinds', WHERE WHAT IT READS IS OF BULK AT MOST 1048576: true; the input reads as it did. -/
def signatureFindsUptoRow : OpenClaim := { program := "ytafddfoefeploaa", sum := "28591a88b159bcb07289818ed8fbd620c473d7b00a90df53b418e15902e25e1b", func := "euclid/euclidlaw07.SignatureFinds", spec := "signatureFinds", unfollowed := true, recurses := true, loops := true, apart := false, narrowed := true }
def SignatureFindsUptoSaid : Prop := signatureFindsUptoRow.holds Try.pinned (OpenSpec.upto signatureFindsSpec)

/-- 'euclidlaw07.SignatureBegins', WHERE WHAT IT READS IS OF BULK AT MOST 1048576: true; the input reads as it did. -/
def signatureBeginsUptoRow : OpenClaim := { program := "ytafddfoefeploaa", sum := "28591a88b159bcb07289818ed8fbd620c473d7b00a90df53b418e15902e25e1b", func := "euclid/euclidlaw07.SignatureBegins", spec := "signatureBegins", unfollowed := true, recurses := true, loops := true, apart := false, narrowed := true }
def SignatureBeginsUptoSaid : Prop := signatureBeginsUptoRow.holds Try.pinned (OpenSpec.upto signatureBeginsSpec)

/-- 'euclidlaw07.SignatureExtends', WHERE WHAT IT READS IS OF BULK AT MOST 1048576: true; the input reads as it did. -/
def signatureExtendsUptoRow : OpenClaim := { program := "ytafddfoefeploaa", sum := "28591a88b159bcb07289818ed8fbd620c473d7b00a90df53b418e15902e25e1b", func := "euclid/euclidlaw07.SignatureExtends", spec := "signatureExtends", unfollowed := true, recurses := true, loops := true, apart := false, narrowed := true }
def SignatureExtendsUptoSaid : Prop := signatureExtendsUptoRow.holds Try.pinned (OpenSpec.upto signatureExtendsSpec)

/-- 'euclidlaw07.SignatureNames', WHERE WHAT IT READS IS OF BULK AT MOST 1048576: true; the input reads as it did. -/
def signatureNamesUptoRow : OpenClaim := { program := "ytafddfoefeploaa", sum := "28591a88b159bcb07289818ed8fbd620c473d7b00a90df53b418e15902e25e1b", func := "euclid/euclidlaw07.SignatureNames", spec := "signatureNames", unfollowed := true, recurses := true, loops := true, apart := false, narrowed := true }
def SignatureNamesUptoSaid : Prop := signatureNamesUptoRow.holds Try.pinned (OpenSpec.upto signatureNamesSpec)

/-- 'euclidlaw07.SignatureCovers', WHERE WHAT IT READS IS OF BULK AT MOST 1048576: true; the input reads as it did. -/
def signatureCoversUptoRow : OpenClaim := { program := "ytafddfoefeploaa", sum := "28591a88b159bcb07289818ed8fbd620c473d7b00a90df53b418e15902e25e1b", func := "euclid/euclidlaw07.SignatureCovers", spec := "signatureCovers", unfollowed := true, recurses := true, loops := true, apart := false, narrowed := true }
def SignatureCoversUptoSaid : Prop := signatureCoversUptoRow.holds Try.pinned (OpenSpec.upto signatureCoversSpec)

end Rows
end Go.Proofs.Ytafddfoefeploaa
