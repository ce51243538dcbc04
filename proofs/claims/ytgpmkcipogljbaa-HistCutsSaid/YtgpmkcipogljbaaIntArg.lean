/- A number, read. -/
import Derived.Test.YtgpmkcipogljbaaReadsH
namespace Go.Proofs.Ytgpmkcipogljbaa
open Go.RowKit Go.ChangeShapes Go.WideShapes Go.Deep
theorem int_of_arg {H : Type} {enc : TypeId × Value → H} {w : World} {r : Reach} {b0 base : Nat} {spare : Nat → Bool} {held : Bool} {v : Value} {d : DataW H} {p : List MemPlace} (hv : Value.okWide Try.prog w r b0 3 v) (h : DataW.Trod enc Try.prog w base spare held 3 v d p) :
    ∃ x : Int, v = .int .i64 x ∧ okI x := by
  obtain ⟨x, rfl, _, _, hw⟩ := open_int Try.underlying3 hv h
  exact ⟨x, rfl, okI_of_wf hw⟩
end Go.Proofs.Ytgpmkcipogljbaa
