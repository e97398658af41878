/- The text of a line, by the document, as a row that the caller may write. -/
import Derived.Test.YtccinlhenkkpeaaDoorGapB
namespace Go.Proofs.YtccinlhenkkpeaaDoor
open Go E
set_option linter.unusedSimpArgs false
set_option linter.unusedVariables false





end Go.Proofs.YtccinlhenkkpeaaDoor
