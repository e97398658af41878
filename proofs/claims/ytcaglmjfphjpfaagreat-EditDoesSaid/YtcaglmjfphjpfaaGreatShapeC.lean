/- What the laws of layer 14 on other cases compute. -/
import Derived.Test.YtcaglmjfphjpfaaGreatShapeA
namespace Go.Proofs.YtcaglmjfphjpfaaGreat
open Go E
set_option linter.unusedSimpArgs false
set_option linter.unusedVariables false




end Go.Proofs.YtcaglmjfphjpfaaGreat
