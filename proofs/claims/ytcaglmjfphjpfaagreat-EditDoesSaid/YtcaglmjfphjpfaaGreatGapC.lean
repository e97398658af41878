/- What the laws of layer 10 compute. -/
import Derived.Test.YtcaglmjfphjpfaaGreatGapB
import Derived.Test.YtcaglmjfphjpfaaGreatArgs
import Derived.Test.YtcaglmjfphjpfaaGreatTextB
namespace Go.Proofs.YtcaglmjfphjpfaaGreat
open Go E
set_option linter.unusedSimpArgs false
set_option linter.unusedVariables false


def gapBig (g : Gap) (l : List Int) : Bool := decide (1000 < g.A.length) || decide (1000 < g.B.length) || decide (1000 < l.length)


theorem gapBig_len {g : Gap} {l : List Int} (h : gapBig g l = false) : g.A.length ≤ 1000 ∧ g.B.length ≤ 1000 ∧ l.length ≤ 1000 := by
  simp [gapBig] at h; omega




end Go.Proofs.YtcaglmjfphjpfaaGreat
