/- The reference's Same, of two graphs that are the same. -/
import Derived.Test.YtpehmmdbjakkpaaGetM
import Derived.Test.YtpehmmdbjakkpaaEqM
namespace Go.Proofs.Ytpehmmdbjakkpaa
open Go.RowKit Go.Shelf
set_option linter.unusedSimpArgs false
set_option linter.unusedVariables false
set_option maxRecDepth 20000
end Go.Proofs.Ytpehmmdbjakkpaa
