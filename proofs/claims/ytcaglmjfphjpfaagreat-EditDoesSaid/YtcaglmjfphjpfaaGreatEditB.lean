/- The law on where a move leads. -/
import Derived.Test.YtcaglmjfphjpfaaGreatEditA
namespace Go.Proofs.YtcaglmjfphjpfaaGreat
open Go E
set_option linter.unusedSimpArgs false
set_option linter.unusedVariables false

theorem pc_edited (n : Nat) : (W (n + 24)).pc 7 [] = some (.bool true) := by kernel_rfl


end Go.Proofs.YtcaglmjfphjpfaaGreat
