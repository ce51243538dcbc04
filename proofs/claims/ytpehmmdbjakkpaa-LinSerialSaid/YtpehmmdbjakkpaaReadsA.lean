/- Operations and results, read. -/
import Derived.Test.YtpehmmdbjakkpaaReadsG
import Derived.Test.YtpehmmdbjakkpaaOpTy
namespace Go.Proofs.Ytpehmmdbjakkpaa
open Go.RowKit Go.ChangeShapes Go.WideShapes Go.Deep
set_option linter.unusedVariables false
set_option maxRecDepth 100000
theorem readsOp : Reads Try.prog tOp 73 (fun _ => True) := ⟨by kernel_rfl, fun {H enc w base spare held fuel cs y} h => by
  obtain ⟨xs, n, _, _, hlen, hxl, hf⟩ := DataW.trod_struct Try.underlying73 h
  have hC : Try.prog.cellsOf 73 = 5 := by kernel_rfl
  rw [hC] at hlen
  match cs, hlen with
  | [c0, c1, c2, c3, c4], _ =>
    match xs, hxl with
    | [y0, y1, y2, y3, y4], _ =>
      have g0 : DataW.trod enc Try.prog w base spare held n 3 ((([c0, c1, c2, c3, c4] : List Value).drop 0).take (Try.prog.cellsOf 3)) = some y0 := hf 0 _ rfl
      have g1 : DataW.trod enc Try.prog w base spare held n 3 ((([c0, c1, c2, c3, c4] : List Value).drop 1).take (Try.prog.cellsOf 3)) = some y1 := hf 1 _ rfl
      have g2 : DataW.trod enc Try.prog w base spare held n 3 ((([c0, c1, c2, c3, c4] : List Value).drop 2).take (Try.prog.cellsOf 3)) = some y2 := hf 2 _ rfl
      have g3 : DataW.trod enc Try.prog w base spare held n 3 ((([c0, c1, c2, c3, c4] : List Value).drop 3).take (Try.prog.cellsOf 3)) = some y3 := hf 3 _ rfl
      have g4 : DataW.trod enc Try.prog w base spare held n 3 ((([c0, c1, c2, c3, c4] : List Value).drop 4).take (Try.prog.cellsOf 3)) = some y4 := hf 4 _ rfl
      rw [cellsI] at g0 g1 g2 g3 g4
      obtain ⟨n0, e0, _, w0⟩ := DataW.trod_int Try.underlying3 g0
      obtain ⟨n1, e1, _, w1⟩ := DataW.trod_int Try.underlying3 g1
      obtain ⟨n2, e2, _, w2⟩ := DataW.trod_int Try.underlying3 g2
      obtain ⟨n3, e3, _, w3⟩ := DataW.trod_int Try.underlying3 g3
      obtain ⟨n4, e4, _, w4⟩ := DataW.trod_int Try.underlying3 g4
      simp at e0 e1 e2 e3 e4
      subst e0 e1 e2 e3 e4
      exact ⟨⟨n0, n1, n2, n3, n4⟩, rfl, trivial⟩⟩
theorem op_of_arg {H : Type} {enc : TypeId × Value → H} {w : World} {r : Reach} {b0 base : Nat} {spare : Nat → Bool} {held : Bool} {v : Value} {d : DataW H} {p : List MemPlace} (hv : Value.okWide Try.prog w r b0 73 v) (h : DataW.Trod enc Try.prog w base spare held 73 v d p) :
    ∃ x : OpD, v = x.val ∧ True := by
  obtain ⟨cs, rfl, hsz⟩ := okWide_struct Try.underlying73 hv
  obtain ⟨fuel, hf⟩ := h
  obtain ⟨x, hk, _⟩ := readsOp.read hf
  have hk' : cs.toList = x.cells := hk
  refine ⟨x, ?_, trivial⟩
  unfold OpD.val
  congr 1
  apply Array.ext'
  exact hk'
theorem readsEnd : Reads Try.prog tP 38 (fun _ => True) := ⟨by kernel_rfl, fun {H enc w base spare held fuel cs y} h => by
  obtain ⟨xs, n, _, _, hlen, hxl, hf⟩ := DataW.trod_struct Try.underlying38 h
  have hC : Try.prog.cellsOf 38 = 2 := by kernel_rfl
  rw [hC] at hlen
  match cs, hlen with
  | [c0, c1], _ =>
    match xs, hxl with
    | [y0, y1], _ =>
      have g0 : DataW.trod enc Try.prog w base spare held n 3 ((([c0, c1] : List Value).drop 0).take (Try.prog.cellsOf 3)) = some y0 := hf 0 _ rfl
      have g1 : DataW.trod enc Try.prog w base spare held n 3 ((([c0, c1] : List Value).drop 1).take (Try.prog.cellsOf 3)) = some y1 := hf 1 _ rfl
      rw [cellsI] at g0 g1
      obtain ⟨n0, e0, _, w0⟩ := DataW.trod_int Try.underlying3 g0
      obtain ⟨n1, e1, _, w1⟩ := DataW.trod_int Try.underlying3 g1
      simp at e0 e1
      subst e0 e1
      exact ⟨⟨n0, n1⟩, rfl, trivial⟩⟩
/-- A result as data. -/
def tRes : Ty ResD where
  sz := 5
  pos := by decide
  K := fun w S x cs => ∃ a1 c1 a2 c2 a3 c3, Row tP w S (.slice a1 x.ps.length c1) x.ps ∧ Row tP w S (.slice a2 x.os.length c2) x.os ∧ Row tP w S (.slice a3 x.is.length c3) x.is ∧ cs = [.int .i64 x.st, .int .i64 x.id, .slice a1 x.ps.length c1, .slice a2 x.os.length c2, .slice a3 x.is.length c3]
  len := by rintro w S x cs ⟨a1, c1, a2, c2, a3, c3, _, _, _, rfl⟩; rfl
  one := by
    rintro w S x cs ⟨a1, c1, a2, c2, a3, c3, _, _, _, rfl⟩ u hu
    simp only [List.mem_cons, List.not_mem_nil, or_false] at hu
    rcases hu with rfl | rfl | rfl | rfl | rfl <;> rfl
  mono := by rintro w S S' x cs hs ⟨a1, c1, a2, c2, a3, c3, h1, h2, h3, rfl⟩; exact ⟨a1, c1, a2, c2, a3, c3, h1.mono hs, h2.mono hs, h3.mono hs, rfl⟩
  move := by rintro w w' S x cs hs ⟨a1, c1, a2, c2, a3, c3, h1, h2, h3, rfl⟩; exact ⟨a1, c1, a2, c2, a3, c3, h1.move hs, h2.move hs, h3.move hs, rfl⟩
theorem cellsE : Try.prog.cellsOf 34 = 1 := by kernel_rfl
theorem readsRes : Reads Try.prog tRes 75 (fun _ => True) := ⟨by kernel_rfl, fun {H enc w base spare held fuel cs y} h => by
  obtain ⟨xs, n, _, _, hlen, hxl, hf⟩ := DataW.trod_struct Try.underlying75 h
  have hC : Try.prog.cellsOf 75 = 5 := by kernel_rfl
  have hP : Try.prog.cellsOf 30 = 1 := by kernel_rfl
  have hE : Try.prog.cellsOf 33 = 1 := by kernel_rfl
  rw [hC] at hlen
  match cs, hlen with
  | [c0, c1, c2, c3, c4], _ =>
    match xs, hxl with
    | [y0, y1, y2, y3, y4], _ =>
      have g0 : DataW.trod enc Try.prog w base spare held n 34 ((([c0, c1, c2, c3, c4] : List Value).drop 0).take (Try.prog.cellsOf 34)) = some y0 := hf 0 _ rfl
      have g1 : DataW.trod enc Try.prog w base spare held n 3 ((([c0, c1, c2, c3, c4] : List Value).drop 1).take (Try.prog.cellsOf 3)) = some y1 := hf 1 _ rfl
      have g2 : DataW.trod enc Try.prog w base spare held n 30 ((([c0, c1, c2, c3, c4] : List Value).drop 2).take (Try.prog.cellsOf 30)) = some y2 := hf 2 _ rfl
      have g3 : DataW.trod enc Try.prog w base spare held n 33 ((([c0, c1, c2, c3, c4] : List Value).drop 3).take (Try.prog.cellsOf 33)) = some y3 := hf 3 _ rfl
      have g4 : DataW.trod enc Try.prog w base spare held n 33 ((([c0, c1, c2, c3, c4] : List Value).drop 4).take (Try.prog.cellsOf 33)) = some y4 := hf 4 _ rfl
      rw [cellsE] at g0
      rw [cellsI] at g1
      rw [hP] at g2
      rw [hE] at g3 g4
      obtain ⟨n0, e0, _, w0⟩ := DataW.trod_int Try.underlying34 g0
      obtain ⟨n1, e1, _, w1⟩ := DataW.trod_int Try.underlying3 g1
      obtain ⟨v2, x2, e2, r2, _⟩ := row_of_trod Try.underlying30 readsPair g2
      obtain ⟨v3, x3, e3, r3, _⟩ := row_of_trod Try.underlying33 readsEnd g3
      obtain ⟨v4, x4, e4, r4, _⟩ := row_of_trod Try.underlying33 readsEnd g4
      obtain ⟨a2, d2, rfl⟩ := r2.slice
      obtain ⟨a3, d3, rfl⟩ := r3.slice
      obtain ⟨a4, d4, rfl⟩ := r4.slice
      simp at e0 e1 e2 e3 e4
      subst e0 e1 e2 e3 e4
      exact ⟨⟨n0, n1, x2, x3, x4⟩, ⟨a2, d2, a3, d3, a4, d4, r2, r3, r4, rfl⟩, trivial⟩⟩
theorem res_of_arg {H : Type} {enc : TypeId × Value → H} {w : World} {r : Reach} {b0 base : Nat} {spare : Nat → Bool} {held : Bool} {v : Value} {d : DataW H} {p : List MemPlace} (hv : Value.okWide Try.prog w r b0 75 v) (h : DataW.Trod enc Try.prog w base spare held 75 v d p) :
    ∃ x : ResD, Res w (fun _ => True) x v ∧ True := by
  obtain ⟨cs, rfl, hsz⟩ := okWide_struct Try.underlying75 hv
  obtain ⟨fuel, hf⟩ := h
  obtain ⟨x, ⟨a1, c1, a2, c2, a3, c3, h1, h2, h3, hk⟩, _⟩ := readsRes.read hf
  refine ⟨x, ⟨_, _, _, ?_, h1, h2, h3⟩, trivial⟩
  congr 1
  apply Array.ext'
  exact hk
end Go.Proofs.Ytpehmmdbjakkpaa
