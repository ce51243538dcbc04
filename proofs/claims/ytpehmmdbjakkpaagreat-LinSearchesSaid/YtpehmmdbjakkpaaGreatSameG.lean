/- The reference's Same, of two graphs that are the same. -/
import Derived.Test.YtpehmmdbjakkpaaGreatGetM
import Derived.Test.YtpehmmdbjakkpaaGreatEqM
namespace Go.Proofs.YtpehmmdbjakkpaaGreat
open Go.RowKit Go.Shelf
set_option linter.unusedSimpArgs false
set_option linter.unusedVariables false
set_option maxRecDepth 20000
end Go.Proofs.YtpehmmdbjakkpaaGreat
