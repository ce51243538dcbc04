/- Cells of operations and numbers in a slice. -/
import Derived.Test.YtaaekhmklkidmaaOpA
import Derived.Test.YtaaekhmklkidmaaLib2
namespace Go.Proofs.Ytaaekhmklkidmaa
open Go.RowKit
theorem Row.atOp {w : World} {S : Nat → Prop} {A : Option Addr} {n c : Nat} {xs : List OpD} (h : Row tOp w S (.slice A n c) xs) {j : Nat} {x : OpD} (hj : xs[j]? = some x) :
    ∃ b off, A = some ⟨b, off, none⟩ ∧ b < w.heap.size ∧ w.cell? ⟨b, off + j * 5, none⟩ = some (.int .i64 x.kind) ∧ w.cell? ⟨b, off + j * 5 + 1, none⟩ = some (.int .i64 x.a) ∧ w.cell? ⟨b, off + j * 5 + 2, none⟩ = some (.int .i64 x.b) ∧ w.cell? ⟨b, off + j * 5 + 3, none⟩ = some (.int .i64 x.k) ∧ w.cell? ⟨b, off + j * 5 + 4, none⟩ = some (.int .i64 x.v) := by
  obtain ⟨b, off, cs, hA, _, hl, hk, hr⟩ := h.at hj
  have hk' : cs = x.cells := hk
  subst hk'
  exact ⟨b, off, hA, hl, range5 hr⟩
theorem Row.atInt {w : World} {S : Nat → Prop} {A : Option Addr} {n c : Nat} {xs : List Int} (h : Row tInt w S (.slice A n c) xs) {j : Nat} {x : Int} (hj : xs[j]? = some x) :
    ∃ b off, A = some ⟨b, off, none⟩ ∧ b < w.heap.size ∧ w.cell? ⟨b, off + j, none⟩ = some (.int .i64 x) := by
  obtain ⟨b, off, cs, hA, _, hl, hk, hr⟩ := h.at hj
  have hk' : cs = [.int .i64 x] := hk
  subst hk'
  have h1 : w.rangeAt b (off + j * 1) [.int .i64 x] := hr
  rw [Nat.mul_one] at h1
  exact ⟨b, off, hA, hl, range1 h1⟩
end Go.Proofs.Ytaaekhmklkidmaa
