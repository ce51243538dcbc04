/- Numbers in a row, read. -/
import Derived.Test.YtpehmmdbjakkpaaGreatLReads
namespace Go.Proofs.YtpehmmdbjakkpaaGreat
open Go.RowKit Go.ChangeShapes Go.WideShapes Go.Deep
set_option linter.unusedVariables false
set_option maxRecDepth 100000
theorem readsInt : Reads Tryz.prog tInt 3 (fun x => okI x) := ⟨by kernel_rfl, fun {H enc w base spare held fuel cs y} h => by
 obtain ⟨n0, e0, _, w0⟩ := DataW.trod_int Tryz.underlying3 h
 subst e0
 exact ⟨n0, rfl, okI_of_wf w0⟩⟩

end Go.Proofs.YtpehmmdbjakkpaaGreat
