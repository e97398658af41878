/- The example of layer 26. -/
import Derived.Test.YtccinlhenkkpeaaDoorRenH
namespace Go.Proofs.YtccinlhenkkpeaaDoor
open Go E
set_option linter.unusedSimpArgs false
set_option linter.unusedVariables false
set_option maxRecDepth 100000

theorem pc_rendered (n : Nat) : (W (n + 20)).pc 8 [] = some (.bool true) := by kernel_rfl

end Go.Proofs.YtccinlhenkkpeaaDoor
