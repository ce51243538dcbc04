/- The reference's Near. -/
import Derived.Test.YtpehmmdbjakkpaaLiveM
namespace Go.Proofs.Ytpehmmdbjakkpaa
open Go.RowKit Go.Shelf
set_option linter.unusedSimpArgs false
set_option linter.unusedVariables false
end Go.Proofs.Ytpehmmdbjakkpaa
