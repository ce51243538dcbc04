/- Events, read. -/
import Derived.Test.YtpehmmdbjakkpaaGreatReadsA
import Derived.Test.YtpehmmdbjakkpaaGreatHistM
namespace Go.Proofs.YtpehmmdbjakkpaaGreat
open Go.RowKit Go.ChangeShapes Go.WideShapes Go.Deep
set_option linter.unusedVariables false
set_option maxRecDepth 100000
theorem readsEv : Reads Tryz.prog tEv 52 (fun x => okI x.th) := ⟨by kernel_rfl, fun {H enc w base spare held fuel cs y} h => by
 obtain ⟨xs, n, _, _, hlen, hxl, hf⟩ := DataW.trod_struct Tryz.underlying52 h
 have hC : Tryz.prog.cellsOf 52 = 12 := by kernel_rfl
 have hB : Tryz.prog.cellsOf 4 = 1 := by kernel_rfl
 have hO : Tryz.prog.cellsOf 46 = 5 := by kernel_rfl
 have hR : Tryz.prog.cellsOf 50 = 5 := by kernel_rfl
 rw [hC] at hlen
 match cs, hlen with
 | [c0, c1, c2, c3, c4, c5, c6, c7, c8, c9, c10, c11], _ =>
  match xs, hxl with
  | [y0, y1, y2, y3], _ =>
   have g0 : DataW.trod enc Tryz.prog w base spare held n 3 ((([c0, c1, c2, c3, c4, c5, c6, c7, c8, c9, c10, c11] : List Value).drop 0).take (Tryz.prog.cellsOf 3)) = some y0 := hf 0 _ rfl
   have g1 : DataW.trod enc Tryz.prog w base spare held n 4 ((([c0, c1, c2, c3, c4, c5, c6, c7, c8, c9, c10, c11] : List Value).drop 1).take (Tryz.prog.cellsOf 4)) = some y1 := hf 1 _ rfl
   have g2 : DataW.trod enc Tryz.prog w base spare held n 46 ((([c0, c1, c2, c3, c4, c5, c6, c7, c8, c9, c10, c11] : List Value).drop 2).take (Tryz.prog.cellsOf 46)) = some y2 := hf 2 _ rfl
   have g3 : DataW.trod enc Tryz.prog w base spare held n 50 ((([c0, c1, c2, c3, c4, c5, c6, c7, c8, c9, c10, c11] : List Value).drop 7).take (Tryz.prog.cellsOf 50)) = some y3 := hf 3 _ rfl
   rw [cellsI] at g0
   rw [hB] at g1
   rw [hO] at g2
   rw [hR] at g3
   obtain ⟨n0, e0, _, w0⟩ := DataW.trod_int Tryz.underlying3 g0
   obtain ⟨b1, e1, _⟩ := DataW.trod_bool Tryz.underlying4 g1
   obtain ⟨o2, k2, _⟩ := readsOp.read g2
   obtain ⟨r3, ⟨p1, d1, p2, d2, p3, d3, s1, s2, s3, k3⟩, _⟩ := readsRes.read g3
   have k2' : [c2, c3, c4, c5, c6] = o2.cells := k2
   have k3' : [c7, c8, c9, c10, c11] = [.int .i64 r3.st, .int .i64 r3.id, .slice p1 r3.ps.length d1, .slice p2 r3.os.length d2, .slice p3 r3.is.length d3] := k3
   simp at e0 e1
   simp only [OpD.cells, List.cons.injEq, and_true] at k2' k3'
   obtain ⟨rfl, rfl, rfl, rfl, rfl⟩ := k2'
   obtain ⟨rfl, rfl, rfl, rfl, rfl⟩ := k3'
   subst e0 e1
   exact ⟨⟨n0, b1, o2, r3⟩, ⟨_, _, _, ⟨s1, s2, s3⟩, rfl⟩, okI_of_wf w0⟩⟩

end Go.Proofs.YtpehmmdbjakkpaaGreat
