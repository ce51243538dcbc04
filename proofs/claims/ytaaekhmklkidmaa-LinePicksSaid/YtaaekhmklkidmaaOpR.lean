/- Numbers and operations, read. -/
import Derived.Test.YtaaekhmklkidmaaLib5
import Derived.Test.YtaaekhmklkidmaaOpA
namespace Go.Proofs.Ytaaekhmklkidmaa
open Go.RowKit Go.ChangeShapes Go.WideShapes Go.Deep
def okI (x : Int) : Prop := -9223372036854775808 ≤ x ∧ x ≤ 9223372036854775807
theorem okI_of_wf {x : Int} (h : (Lit.int .i64 x).wf = true) : okI x := by
  simpa [Lit.wf, IntKind.min, IntKind.max, IntKind.signed, IntKind.bits, okI] using h
def OpD.ok (o : OpD) : Prop := okI o.kind ∧ okI o.a ∧ okI o.b ∧ okI o.k ∧ okI o.v
theorem readsInt : Reads Try.prog tInt 3 okI := ⟨by kernel_rfl, fun h => by
  obtain ⟨n, rfl, _, hw⟩ := DataW.trod_int Try.underlying3 h
  exact ⟨n, rfl, okI_of_wf hw⟩⟩
theorem readsOp : Reads Try.prog tOp 23 OpD.ok := ⟨by kernel_rfl, fun {H enc w base spare held fuel cs y} h => by
  obtain ⟨xs, n, _, _, hlen, hxl, hf⟩ := DataW.trod_struct Try.underlying23 h
  have hC : Try.prog.cellsOf 23 = 5 := by kernel_rfl
  have hI : Try.prog.cellsOf 3 = 1 := by kernel_rfl
  rw [hC] at hlen
  match cs, hlen with
  | [c0, c1, c2, c3, c4], _ =>
    match xs, hxl with
    | [y0, y1, y2, y3, y4], _ =>
      have g0 : DataW.trod enc Try.prog w base spare held n 3 ((([c0, c1, c2, c3, c4] : List Value).drop 0).take (Try.prog.cellsOf 3)) = some y0 := hf 0 _ rfl
      have g1 : DataW.trod enc Try.prog w base spare held n 3 ((([c0, c1, c2, c3, c4] : List Value).drop 1).take (Try.prog.cellsOf 3)) = some y1 := hf 1 _ rfl
      have g2 : DataW.trod enc Try.prog w base spare held n 3 ((([c0, c1, c2, c3, c4] : List Value).drop 2).take (Try.prog.cellsOf 3)) = some y2 := hf 2 _ rfl
      have g3 : DataW.trod enc Try.prog w base spare held n 3 ((([c0, c1, c2, c3, c4] : List Value).drop 3).take (Try.prog.cellsOf 3)) = some y3 := hf 3 _ rfl
      have g4 : DataW.trod enc Try.prog w base spare held n 3 ((([c0, c1, c2, c3, c4] : List Value).drop 4).take (Try.prog.cellsOf 3)) = some y4 := hf 4 _ rfl
      rw [hI] at g0 g1 g2 g3 g4
      obtain ⟨n0, e0, _, w0⟩ := DataW.trod_int Try.underlying3 g0
      obtain ⟨n1, e1, _, w1⟩ := DataW.trod_int Try.underlying3 g1
      obtain ⟨n2, e2, _, w2⟩ := DataW.trod_int Try.underlying3 g2
      obtain ⟨n3, e3, _, w3⟩ := DataW.trod_int Try.underlying3 g3
      obtain ⟨n4, e4, _, w4⟩ := DataW.trod_int Try.underlying3 g4
      simp at e0 e1 e2 e3 e4
      subst e0 e1 e2 e3 e4
      exact ⟨⟨n0, n1, n2, n3, n4⟩, rfl, okI_of_wf w0, okI_of_wf w1, okI_of_wf w2, okI_of_wf w3, okI_of_wf w4⟩⟩
/-- An operation by value. -/
theorem op_of_arg {H : Type} {enc : TypeId × Value → H} {w : World} {r : Reach} {b0 base : Nat} {spare : Nat → Bool} {held : Bool} {v : Value} {d : DataW H} {p : List MemPlace} (hv : Value.okWide Try.prog w r b0 23 v) (h : DataW.Trod enc Try.prog w base spare held 23 v d p) :
    ∃ x : OpD, v = x.val ∧ x.ok := by
  obtain ⟨cs, rfl, hsz⟩ := okWide_struct Try.underlying23 hv
  obtain ⟨fuel, hf⟩ := h
  obtain ⟨x, hk, hok⟩ := readsOp.read hf
  have hk' : cs.toList = x.cells := hk
  refine ⟨x, ?_, hok⟩
  unfold OpD.val
  congr 1
  apply Array.ext'
  exact hk'
theorem int_of_arg {H : Type} {enc : TypeId × Value → H} {w : World} {r : Reach} {b0 base : Nat} {spare : Nat → Bool} {held : Bool} {v : Value} {d : DataW H} {p : List MemPlace} (hv : Value.okWide Try.prog w r b0 3 v) (h : DataW.Trod enc Try.prog w base spare held 3 v d p) :
    ∃ x : Int, v = .int .i64 x ∧ okI x := by
  obtain ⟨x, rfl, _, _, hw⟩ := open_int Try.underlying3 hv h
  exact ⟨x, rfl, okI_of_wf hw⟩
end Go.Proofs.Ytaaekhmklkidmaa
