/- awake answers true. -/
import Derived.Test.YtkimijmiphkddaaMl
namespace Go.Proofs.Ytkimijmiphkddaa
open Go.RowKit
set_option linter.unusedSimpArgs false
set_option linter.unusedVariables false
set_option linter.unusedSectionVars false
theorem m12_true : m12 = some true := by kernel_rfl
theorem awake_fun : Fun Try.prog 12 [] (resOf [.one (dB true)]) := m12_ok true m12_true
end Go.Proofs.Ytkimijmiphkddaa
