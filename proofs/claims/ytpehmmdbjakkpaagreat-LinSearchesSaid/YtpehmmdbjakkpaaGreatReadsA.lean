/- Operations and results, read. -/
import Derived.Test.YtpehmmdbjakkpaaGreatReadsG
import Derived.Test.YtpehmmdbjakkpaaGreatOpTy
namespace Go.Proofs.YtpehmmdbjakkpaaGreat
open Go.RowKit Go.ChangeShapes Go.WideShapes Go.Deep
set_option linter.unusedVariables false
set_option maxRecDepth 100000
def tOp : Ty OpD := Ty.flat 5 (by decide) OpD.cells (fun _ => rfl) (fun x u hu => by
 simp only [OpD.cells, List.mem_cons, List.not_mem_nil, or_false] at hu
 rcases hu with rfl | rfl | rfl | rfl | rfl <;> rfl)
theorem readsOp : Reads Tryz.prog tOp 46 (fun _ => True) := ⟨by kernel_rfl, fun {H enc w base spare held fuel cs y} h => by
 obtain ⟨xs, n, _, _, hlen, hxl, hf⟩ := DataW.trod_struct Tryz.underlying46 h
 have hC : Tryz.prog.cellsOf 46 = 5 := by kernel_rfl
 rw [hC] at hlen
 match cs, hlen with
 | [c0, c1, c2, c3, c4], _ =>
  match xs, hxl with
  | [y0, y1, y2, y3, y4], _ =>
   have g0 : DataW.trod enc Tryz.prog w base spare held n 3 ((([c0, c1, c2, c3, c4] : List Value).drop 0).take (Tryz.prog.cellsOf 3)) = some y0 := hf 0 _ rfl
   have g1 : DataW.trod enc Tryz.prog w base spare held n 3 ((([c0, c1, c2, c3, c4] : List Value).drop 1).take (Tryz.prog.cellsOf 3)) = some y1 := hf 1 _ rfl
   have g2 : DataW.trod enc Tryz.prog w base spare held n 3 ((([c0, c1, c2, c3, c4] : List Value).drop 2).take (Tryz.prog.cellsOf 3)) = some y2 := hf 2 _ rfl
   have g3 : DataW.trod enc Tryz.prog w base spare held n 3 ((([c0, c1, c2, c3, c4] : List Value).drop 3).take (Tryz.prog.cellsOf 3)) = some y3 := hf 3 _ rfl
   have g4 : DataW.trod enc Tryz.prog w base spare held n 3 ((([c0, c1, c2, c3, c4] : List Value).drop 4).take (Tryz.prog.cellsOf 3)) = some y4 := hf 4 _ rfl
   rw [cellsI] at g0 g1 g2 g3 g4
   obtain ⟨n0, e0, _, w0⟩ := DataW.trod_int Tryz.underlying3 g0
   obtain ⟨n1, e1, _, w1⟩ := DataW.trod_int Tryz.underlying3 g1
   obtain ⟨n2, e2, _, w2⟩ := DataW.trod_int Tryz.underlying3 g2
   obtain ⟨n3, e3, _, w3⟩ := DataW.trod_int Tryz.underlying3 g3
   obtain ⟨n4, e4, _, w4⟩ := DataW.trod_int Tryz.underlying3 g4
   simp at e0 e1 e2 e3 e4
   subst e0 e1 e2 e3 e4
   exact ⟨⟨n0, n1, n2, n3, n4⟩, rfl, trivial⟩⟩
theorem readsEnd : Reads Tryz.prog tP 131 (fun _ => True) := ⟨by kernel_rfl, fun {H enc w base spare held fuel cs y} h => by
 obtain ⟨xs, n, _, _, hlen, hxl, hf⟩ := DataW.trod_struct Tryz.underlying131 h
 have hC : Tryz.prog.cellsOf 131 = 2 := by kernel_rfl
 rw [hC] at hlen
 match cs, hlen with
 | [c0, c1], _ =>
  match xs, hxl with
  | [y0, y1], _ =>
   have g0 : DataW.trod enc Tryz.prog w base spare held n 3 ((([c0, c1] : List Value).drop 0).take (Tryz.prog.cellsOf 3)) = some y0 := hf 0 _ rfl
   have g1 : DataW.trod enc Tryz.prog w base spare held n 3 ((([c0, c1] : List Value).drop 1).take (Tryz.prog.cellsOf 3)) = some y1 := hf 1 _ rfl
   rw [cellsI] at g0 g1
   obtain ⟨n0, e0, _, w0⟩ := DataW.trod_int Tryz.underlying3 g0
   obtain ⟨n1, e1, _, w1⟩ := DataW.trod_int Tryz.underlying3 g1
   simp at e0 e1
   subst e0 e1
   exact ⟨⟨n0, n1⟩, rfl, trivial⟩⟩
/-- A result as data. -/
def tRes : Ty ResD where
 sz := 5
 pos := by decide
 K := fun w S x cs => ∃ a1 c1 a2 c2 a3 c3, Row tP w S (.slice a1 x.ps.length c1) x.ps ∧ Row tP w S (.slice a2 x.os.length c2) x.os ∧ Row tP w S (.slice a3 x.is.length c3) x.is ∧ cs = [.int .i64 x.st, .int .i64 x.id, .slice a1 x.ps.length c1, .slice a2 x.os.length c2, .slice a3 x.is.length c3]
 len := by rintro w S x cs ⟨a1, c1, a2, c2, a3, c3, _, _, _, rfl⟩; rfl
 one := by
  rintro w S x cs ⟨a1, c1, a2, c2, a3, c3, _, _, _, rfl⟩ u hu
  simp only [List.mem_cons, List.not_mem_nil, or_false] at hu
  rcases hu with rfl | rfl | rfl | rfl | rfl <;> rfl
 mono := by rintro w S S' x cs hs ⟨a1, c1, a2, c2, a3, c3, h1, h2, h3, rfl⟩; exact ⟨a1, c1, a2, c2, a3, c3, h1.mono hs, h2.mono hs, h3.mono hs, rfl⟩
 move := by rintro w w' S x cs hs ⟨a1, c1, a2, c2, a3, c3, h1, h2, h3, rfl⟩; exact ⟨a1, c1, a2, c2, a3, c3, h1.move hs, h2.move hs, h3.move hs, rfl⟩
theorem cellsE : Tryz.prog.cellsOf 32 = 1 := by kernel_rfl
theorem readsRes : Reads Tryz.prog tRes 50 (fun _ => True) := ⟨by kernel_rfl, fun {H enc w base spare held fuel cs y} h => by
 obtain ⟨xs, n, _, _, hlen, hxl, hf⟩ := DataW.trod_struct Tryz.underlying50 h
 have hC : Tryz.prog.cellsOf 50 = 5 := by kernel_rfl
 have hP : Tryz.prog.cellsOf 47 = 1 := by kernel_rfl
 have hE : Tryz.prog.cellsOf 48 = 1 := by kernel_rfl
 rw [hC] at hlen
 match cs, hlen with
 | [c0, c1, c2, c3, c4], _ =>
  match xs, hxl with
  | [y0, y1, y2, y3, y4], _ =>
   have g0 : DataW.trod enc Tryz.prog w base spare held n 32 ((([c0, c1, c2, c3, c4] : List Value).drop 0).take (Tryz.prog.cellsOf 32)) = some y0 := hf 0 _ rfl
   have g1 : DataW.trod enc Tryz.prog w base spare held n 3 ((([c0, c1, c2, c3, c4] : List Value).drop 1).take (Tryz.prog.cellsOf 3)) = some y1 := hf 1 _ rfl
   have g2 : DataW.trod enc Tryz.prog w base spare held n 47 ((([c0, c1, c2, c3, c4] : List Value).drop 2).take (Tryz.prog.cellsOf 47)) = some y2 := hf 2 _ rfl
   have g3 : DataW.trod enc Tryz.prog w base spare held n 48 ((([c0, c1, c2, c3, c4] : List Value).drop 3).take (Tryz.prog.cellsOf 48)) = some y3 := hf 3 _ rfl
   have g4 : DataW.trod enc Tryz.prog w base spare held n 48 ((([c0, c1, c2, c3, c4] : List Value).drop 4).take (Tryz.prog.cellsOf 48)) = some y4 := hf 4 _ rfl
   rw [cellsE] at g0
   rw [cellsI] at g1
   rw [hP] at g2
   rw [hE] at g3 g4
   obtain ⟨n0, e0, _, w0⟩ := DataW.trod_int Tryz.underlying32 g0
   obtain ⟨n1, e1, _, w1⟩ := DataW.trod_int Tryz.underlying3 g1
   obtain ⟨v2, x2, e2, r2, _⟩ := row_of_trod Tryz.underlying47 readsPair g2
   obtain ⟨v3, x3, e3, r3, _⟩ := row_of_trod Tryz.underlying48 readsEnd g3
   obtain ⟨v4, x4, e4, r4, _⟩ := row_of_trod Tryz.underlying48 readsEnd g4
   obtain ⟨a2, d2, rfl⟩ := r2.slice
   obtain ⟨a3, d3, rfl⟩ := r3.slice
   obtain ⟨a4, d4, rfl⟩ := r4.slice
   simp at e0 e1 e2 e3 e4
   subst e0 e1 e2 e3 e4
   exact ⟨⟨n0, n1, x2, x3, x4⟩, ⟨a2, d2, a3, d3, a4, d4, r2, r3, r4, rfl⟩, trivial⟩⟩
end Go.Proofs.YtpehmmdbjakkpaaGreat
