/- Events, read. -/
import Derived.Test.YtgpmkcipogljbaaLib5
import Derived.Test.YtgpmkcipogljbaaDTy
import Derived.Test.YtgpmkcipogljbaaMapI
namespace Go.Proofs.Ytgpmkcipogljbaa
open Go.RowKit Go.ChangeShapes Go.WideShapes Go.Deep
set_option linter.unusedVariables false
theorem okI_of_wf {x : Int} (h : (Lit.int .i64 x).wf = true) : okI x := by
  simpa [Lit.wf, IntKind.min, IntKind.max, IntKind.signed, IntKind.bits, okI] using h
theorem cellsI : Try.prog.cellsOf 3 = 1 := by kernel_rfl
theorem cellsE : Try.prog.cellsOf 26 = 1 := by kernel_rfl
theorem readsPair : Reads Try.prog tP 53 (fun _ => True) := ⟨by kernel_rfl, fun {H enc w base spare held fuel cs y} h => by
  obtain ⟨xs, n, _, _, hlen, hxl, hf⟩ := DataW.trod_struct Try.underlying53 h
  have hC : Try.prog.cellsOf 53 = 2 := by kernel_rfl
  rw [hC] at hlen
  match cs, hlen with
  | [c0, c1], _ =>
    match xs, hxl with
    | [y0, y1], _ =>
      have g0 : DataW.trod enc Try.prog w base spare held n 3 ((([c0, c1] : List Value).drop 0).take (Try.prog.cellsOf 3)) = some y0 := hf 0 _ rfl
      have g1 : DataW.trod enc Try.prog w base spare held n 3 ((([c0, c1] : List Value).drop 1).take (Try.prog.cellsOf 3)) = some y1 := hf 1 _ rfl
      rw [cellsI] at g0 g1
      obtain ⟨n0, e0, _, w0⟩ := DataW.trod_int Try.underlying3 g0
      obtain ⟨n1, e1, _, w1⟩ := DataW.trod_int Try.underlying3 g1
      simp at e0 e1
      subst e0 e1
      exact ⟨⟨n0, n1⟩, rfl, trivial⟩⟩
theorem readsEnd : Reads Try.prog tP 56 (fun _ => True) := ⟨by kernel_rfl, fun {H enc w base spare held fuel cs y} h => by
  obtain ⟨xs, n, _, _, hlen, hxl, hf⟩ := DataW.trod_struct Try.underlying56 h
  have hC : Try.prog.cellsOf 56 = 2 := by kernel_rfl
  rw [hC] at hlen
  match cs, hlen with
  | [c0, c1], _ =>
    match xs, hxl with
    | [y0, y1], _ =>
      have g0 : DataW.trod enc Try.prog w base spare held n 3 ((([c0, c1] : List Value).drop 0).take (Try.prog.cellsOf 3)) = some y0 := hf 0 _ rfl
      have g1 : DataW.trod enc Try.prog w base spare held n 3 ((([c0, c1] : List Value).drop 1).take (Try.prog.cellsOf 3)) = some y1 := hf 1 _ rfl
      rw [cellsI] at g0 g1
      obtain ⟨n0, e0, _, w0⟩ := DataW.trod_int Try.underlying3 g0
      obtain ⟨n1, e1, _, w1⟩ := DataW.trod_int Try.underlying3 g1
      simp at e0 e1
      subst e0 e1
      exact ⟨⟨n0, n1⟩, rfl, trivial⟩⟩
theorem readsOp : Reads Try.prog tOp 30 (fun _ => True) := ⟨by kernel_rfl, fun {H enc w base spare held fuel cs y} h => by
  obtain ⟨xs, n, _, _, hlen, hxl, hf⟩ := DataW.trod_struct Try.underlying30 h
  have hC : Try.prog.cellsOf 30 = 5 := by kernel_rfl
  rw [hC] at hlen
  match cs, hlen with
  | [c0, c1, c2, c3, c4], _ =>
    match xs, hxl with
    | [y0, y1, y2, y3, y4], _ =>
      have g0 : DataW.trod enc Try.prog w base spare held n 3 ((([c0, c1, c2, c3, c4] : List Value).drop 0).take (Try.prog.cellsOf 3)) = some y0 := hf 0 _ rfl
      have g1 : DataW.trod enc Try.prog w base spare held n 3 ((([c0, c1, c2, c3, c4] : List Value).drop 1).take (Try.prog.cellsOf 3)) = some y1 := hf 1 _ rfl
      have g2 : DataW.trod enc Try.prog w base spare held n 3 ((([c0, c1, c2, c3, c4] : List Value).drop 2).take (Try.prog.cellsOf 3)) = some y2 := hf 2 _ rfl
      have g3 : DataW.trod enc Try.prog w base spare held n 3 ((([c0, c1, c2, c3, c4] : List Value).drop 3).take (Try.prog.cellsOf 3)) = some y3 := hf 3 _ rfl
      have g4 : DataW.trod enc Try.prog w base spare held n 3 ((([c0, c1, c2, c3, c4] : List Value).drop 4).take (Try.prog.cellsOf 3)) = some y4 := hf 4 _ rfl
      rw [cellsI] at g0 g1 g2 g3 g4
      obtain ⟨n0, e0, _, w0⟩ := DataW.trod_int Try.underlying3 g0
      obtain ⟨n1, e1, _, w1⟩ := DataW.trod_int Try.underlying3 g1
      obtain ⟨n2, e2, _, w2⟩ := DataW.trod_int Try.underlying3 g2
      obtain ⟨n3, e3, _, w3⟩ := DataW.trod_int Try.underlying3 g3
      obtain ⟨n4, e4, _, w4⟩ := DataW.trod_int Try.underlying3 g4
      simp at e0 e1 e2 e3 e4
      subst e0 e1 e2 e3 e4
      exact ⟨⟨n0, n1, n2, n3, n4⟩, rfl, trivial⟩⟩
theorem readsRes : Reads Try.prog tRes 34 (fun _ => True) := ⟨by kernel_rfl, fun {H enc w base spare held fuel cs y} h => by
  obtain ⟨xs, n, _, _, hlen, hxl, hf⟩ := DataW.trod_struct Try.underlying34 h
  have hC : Try.prog.cellsOf 34 = 5 := by kernel_rfl
  have hP : Try.prog.cellsOf 31 = 1 := by kernel_rfl
  have hN : Try.prog.cellsOf 32 = 1 := by kernel_rfl
  rw [hC] at hlen
  match cs, hlen with
  | [c0, c1, c2, c3, c4], _ =>
    match xs, hxl with
    | [y0, y1, y2, y3, y4], _ =>
      have g0 : DataW.trod enc Try.prog w base spare held n 26 ((([c0, c1, c2, c3, c4] : List Value).drop 0).take (Try.prog.cellsOf 26)) = some y0 := hf 0 _ rfl
      have g1 : DataW.trod enc Try.prog w base spare held n 3 ((([c0, c1, c2, c3, c4] : List Value).drop 1).take (Try.prog.cellsOf 3)) = some y1 := hf 1 _ rfl
      have g2 : DataW.trod enc Try.prog w base spare held n 31 ((([c0, c1, c2, c3, c4] : List Value).drop 2).take (Try.prog.cellsOf 31)) = some y2 := hf 2 _ rfl
      have g3 : DataW.trod enc Try.prog w base spare held n 32 ((([c0, c1, c2, c3, c4] : List Value).drop 3).take (Try.prog.cellsOf 32)) = some y3 := hf 3 _ rfl
      have g4 : DataW.trod enc Try.prog w base spare held n 32 ((([c0, c1, c2, c3, c4] : List Value).drop 4).take (Try.prog.cellsOf 32)) = some y4 := hf 4 _ rfl
      rw [cellsI] at g1
      rw [cellsE] at g0
      rw [hP] at g2
      rw [hN] at g3 g4
      obtain ⟨n0, e0, _, w0⟩ := DataW.trod_int Try.underlying26 g0
      obtain ⟨n1, e1, _, w1⟩ := DataW.trod_int Try.underlying3 g1
      obtain ⟨v2, x2, e2, r2, _⟩ := row_of_trod Try.underlying31 readsPair g2
      obtain ⟨v3, x3, e3, r3, _⟩ := row_of_trod Try.underlying32 readsEnd g3
      obtain ⟨v4, x4, e4, r4, _⟩ := row_of_trod Try.underlying32 readsEnd g4
      simp at e0 e1 e2 e3 e4
      subst e0 e1 e2 e3 e4
      exact ⟨⟨n0, n1, x2, x3, x4⟩, ⟨_, _, _, ⟨r2, r3, r4⟩, rfl⟩, trivial⟩⟩
theorem readsEv : Reads Try.prog tEv 43 (fun x => okI x.th) := ⟨by kernel_rfl, fun {H enc w base spare held fuel cs y} h => by
  obtain ⟨xs, n, _, _, hlen, hxl, hf⟩ := DataW.trod_struct Try.underlying43 h
  have hC : Try.prog.cellsOf 43 = 12 := by kernel_rfl
  have hB : Try.prog.cellsOf 4 = 1 := by kernel_rfl
  have hO : Try.prog.cellsOf 30 = 5 := by kernel_rfl
  have hR : Try.prog.cellsOf 34 = 5 := by kernel_rfl
  rw [hC] at hlen
  match cs, hlen with
  | [c0, c1, c2, c3, c4, c5, c6, c7, c8, c9, c10, c11], _ =>
    match xs, hxl with
    | [y0, y1, y2, y3], _ =>
      have g0 : DataW.trod enc Try.prog w base spare held n 3 ((([c0, c1, c2, c3, c4, c5, c6, c7, c8, c9, c10, c11] : List Value).drop 0).take (Try.prog.cellsOf 3)) = some y0 := hf 0 _ rfl
      have g1 : DataW.trod enc Try.prog w base spare held n 4 ((([c0, c1, c2, c3, c4, c5, c6, c7, c8, c9, c10, c11] : List Value).drop 1).take (Try.prog.cellsOf 4)) = some y1 := hf 1 _ rfl
      have g2 : DataW.trod enc Try.prog w base spare held n 30 ((([c0, c1, c2, c3, c4, c5, c6, c7, c8, c9, c10, c11] : List Value).drop 2).take (Try.prog.cellsOf 30)) = some y2 := hf 2 _ rfl
      have g3 : DataW.trod enc Try.prog w base spare held n 34 ((([c0, c1, c2, c3, c4, c5, c6, c7, c8, c9, c10, c11] : List Value).drop 7).take (Try.prog.cellsOf 34)) = some y3 := hf 3 _ rfl
      rw [cellsI] at g0
      rw [hB] at g1
      rw [hO] at g2
      rw [hR] at g3
      obtain ⟨n0, e0, _, w0⟩ := DataW.trod_int Try.underlying3 g0
      obtain ⟨b1, e1, _⟩ := DataW.trod_bool Try.underlying4 g1
      obtain ⟨o2, k2, _⟩ := readsOp.read g2
      obtain ⟨r3, ⟨p, o, i, hs, k3⟩, _⟩ := readsRes.read g3
      have k2' : [c2, c3, c4, c5, c6] = o2.cells := k2
      have k3' : [c7, c8, c9, c10, c11] = [.int .i64 r3.err, .int .i64 r3.id, p, o, i] := k3
      simp at e0 e1
      simp only [OpD.cells, List.cons.injEq, and_true] at k2' k3'
      obtain ⟨rfl, rfl, rfl, rfl, rfl⟩ := k2'
      obtain ⟨rfl, rfl, rfl, rfl, rfl⟩ := k3'
      subst e0 e1
      exact ⟨⟨n0, b1, o2, r3⟩, ⟨_, _, _, hs, rfl⟩, okI_of_wf w0⟩⟩
end Go.Proofs.Ytgpmkcipogljbaa
