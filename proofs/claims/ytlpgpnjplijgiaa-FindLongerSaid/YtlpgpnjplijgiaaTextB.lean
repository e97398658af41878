/- The text of a line, by the document, as a row that the caller may write. -/
import Derived.Test.YtlpgpnjplijgiaaGapB
namespace Go.Proofs.Ytlpgpnjplijgiaa
open Go E
set_option linter.unusedSimpArgs false
set_option linter.unusedVariables false





end Go.Proofs.Ytlpgpnjplijgiaa
