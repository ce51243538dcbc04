/- Cells out of a known range; small lemmas. -/
import Derived.Test.YtpehmmdbjakkpaaLib
import Derived.Test.YtpehmmdbjakkpaaSched
namespace Go.Proofs.Ytpehmmdbjakkpaa
open Go.RowKit
section
variable {w : World} {b o : Nat} {v0 v1 v2 v3 v4 : Value}
theorem range1 (h : w.rangeAt b o [v0]) : w.cell? ⟨b, o, none⟩ = some v0 := h 0 _ rfl
theorem range2 (h : w.rangeAt b o [v0, v1]) : w.cell? ⟨b, o, none⟩ = some v0 ∧ w.cell? ⟨b, o + 1, none⟩ = some v1 := ⟨h 0 _ rfl, h 1 _ rfl⟩
theorem range3 (h : w.rangeAt b o [v0, v1, v2]) : w.cell? ⟨b, o, none⟩ = some v0 ∧ w.cell? ⟨b, o + 1, none⟩ = some v1 ∧ w.cell? ⟨b, o + 2, none⟩ = some v2 := ⟨h 0 _ rfl, h 1 _ rfl, h 2 _ rfl⟩
theorem range5 (h : w.rangeAt b o [v0, v1, v2, v3, v4]) : w.cell? ⟨b, o, none⟩ = some v0 ∧ w.cell? ⟨b, o + 1, none⟩ = some v1 ∧ w.cell? ⟨b, o + 2, none⟩ = some v2 ∧ w.cell? ⟨b, o + 3, none⟩ = some v3 ∧ w.cell? ⟨b, o + 4, none⟩ = some v4 := ⟨h 0 _ rfl, h 1 _ rfl, h 2 _ rfl, h 3 _ rfl, h 4 _ rfl⟩
end
theorem eq_of_getElem? {α : Type} {xs ys : List α} (hl : xs.length = ys.length) (h : ∀ j, j < xs.length → xs[j]? = ys[j]?) : xs = ys := by
  apply List.ext_getElem?
  intro j
  by_cases hj : j < xs.length
  · exact h j hj
  · rw [List.getElem?_eq_none (by omega), List.getElem?_eq_none (by omega)]
end Go.Proofs.Ytpehmmdbjakkpaa
