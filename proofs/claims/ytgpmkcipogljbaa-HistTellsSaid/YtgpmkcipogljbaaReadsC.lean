/- Calls, read. -/
import Derived.Test.YtgpmkcipogljbaaReadsH
namespace Go.Proofs.Ytgpmkcipogljbaa
open Go.RowKit Go.ChangeShapes Go.WideShapes Go.Deep
set_option linter.unusedVariables false
theorem readsCall : Reads Try.prog tCall 36 (fun _ => True) := ⟨by kernel_rfl, fun {H enc w base spare held fuel cs y} h => by
  obtain ⟨xs, n, _, _, hlen, hxl, hf⟩ := DataW.trod_struct Try.underlying36 h
  have hC : Try.prog.cellsOf 36 = 13 := by kernel_rfl
  have hO : Try.prog.cellsOf 30 = 5 := by kernel_rfl
  have hR : Try.prog.cellsOf 34 = 5 := by kernel_rfl
  rw [hC] at hlen
  match cs, hlen with
  | [c0, c1, c2, c3, c4, c5, c6, c7, c8, c9, c10, c11, c12], _ =>
    match xs, hxl with
    | [y0, y1, y2, y3, y4], _ =>
      have g0 : DataW.trod enc Try.prog w base spare held n 3 ((([c0, c1, c2, c3, c4, c5, c6, c7, c8, c9, c10, c11, c12] : List Value).drop 0).take (Try.prog.cellsOf 3)) = some y0 := hf 0 _ rfl
      have g1 : DataW.trod enc Try.prog w base spare held n 30 ((([c0, c1, c2, c3, c4, c5, c6, c7, c8, c9, c10, c11, c12] : List Value).drop 1).take (Try.prog.cellsOf 30)) = some y1 := hf 1 _ rfl
      have g2 : DataW.trod enc Try.prog w base spare held n 3 ((([c0, c1, c2, c3, c4, c5, c6, c7, c8, c9, c10, c11, c12] : List Value).drop 6).take (Try.prog.cellsOf 3)) = some y2 := hf 2 _ rfl
      have g3 : DataW.trod enc Try.prog w base spare held n 3 ((([c0, c1, c2, c3, c4, c5, c6, c7, c8, c9, c10, c11, c12] : List Value).drop 7).take (Try.prog.cellsOf 3)) = some y3 := hf 3 _ rfl
      have g4 : DataW.trod enc Try.prog w base spare held n 34 ((([c0, c1, c2, c3, c4, c5, c6, c7, c8, c9, c10, c11, c12] : List Value).drop 8).take (Try.prog.cellsOf 34)) = some y4 := hf 4 _ rfl
      rw [cellsI] at g0 g2 g3
      rw [hO] at g1
      rw [hR] at g4
      obtain ⟨n0, e0, _, w0⟩ := DataW.trod_int Try.underlying3 g0
      obtain ⟨o1, k1, _⟩ := readsOp.read g1
      obtain ⟨n2, e2, _, w2⟩ := DataW.trod_int Try.underlying3 g2
      obtain ⟨n3, e3, _, w3⟩ := DataW.trod_int Try.underlying3 g3
      obtain ⟨r4, ⟨p, o, i, hs, k4⟩, _⟩ := readsRes.read g4
      have k1' : [c1, c2, c3, c4, c5] = o1.cells := k1
      have k4' : [c8, c9, c10, c11, c12] = [.int .i64 r4.err, .int .i64 r4.id, p, o, i] := k4
      simp at e0 e2 e3
      simp only [OpD.cells, List.cons.injEq, and_true] at k1' k4'
      obtain ⟨rfl, rfl, rfl, rfl, rfl⟩ := k1'
      obtain ⟨rfl, rfl, rfl, rfl, rfl⟩ := k4'
      subst e0 e2 e3
      exact ⟨⟨n0, o1, n2, n3, r4⟩, ⟨_, _, _, hs, rfl⟩, trivial⟩⟩
theorem call_of_arg {H : Type} {enc : TypeId × Value → H} {w : World} {r : Reach} {b0 base : Nat} {spare : Nat → Bool} {held : Bool} {v : Value} {d : DataW H} {p : List MemPlace} (hv : Value.okWide Try.prog w r b0 36 v) (h : DataW.Trod enc Try.prog w base spare held 36 v d p) :
    ∃ (x : CallD) (p o i : Value), v = .agg #[.int .i64 x.th, .int .i64 x.op.kind, .int .i64 x.op.a, .int .i64 x.op.b, .int .i64 x.op.k, .int .i64 x.op.v, .int .i64 x.frm, .int .i64 x.to, .int .i64 x.res.err, .int .i64 x.res.id, p, o, i] ∧ Sl w (fun _ => True) x.res p o i := by
  obtain ⟨cs, rfl, hsz⟩ := okWide_struct Try.underlying36 hv
  obtain ⟨fuel, hf⟩ := h
  obtain ⟨x, ⟨p, o, i, hs, hk⟩, _⟩ := readsCall.read hf
  have hk' : cs.toList = [.int .i64 x.th, .int .i64 x.op.kind, .int .i64 x.op.a, .int .i64 x.op.b, .int .i64 x.op.k, .int .i64 x.op.v, .int .i64 x.frm, .int .i64 x.to, .int .i64 x.res.err, .int .i64 x.res.id, p, o, i] := hk
  refine ⟨x, p, o, i, ?_, hs⟩
  congr 1
  apply Array.ext'
  exact hk'
end Go.Proofs.Ytgpmkcipogljbaa
