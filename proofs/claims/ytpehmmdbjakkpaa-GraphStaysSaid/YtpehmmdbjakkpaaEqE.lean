/- Whether two edges are the same. -/
import Derived.Test.YtpehmmdbjakkpaaGTy
import Derived.Laws.StructEq
namespace Go.Proofs.Ytpehmmdbjakkpaa
open Go.RowKit
set_option linter.unusedSimpArgs false
set_option linter.unusedVariables false
theorem eqInEdge (d : Nat) (w : World) (x y : EdgeD) : (Op.equalIn (d + 2) 40 (.agg #[.int .i64 x.id, .int .i64 x.frm, .int .i64 x.to]) (.agg #[.int .i64 y.id, .int .i64 y.frm, .int .i64 y.to])).run Try.prog w = .ok (decide (x = y)) w := by
  have e : decide (x = y) = (x.id == y.id && (x.frm == y.frm && x.to == y.to)) := by
    obtain ⟨x0, x1, x2⟩ := x
    obtain ⟨y0, y1, y2⟩ := y
    simp only [EdgeD.mk.injEq]
    rw [Bool.eq_iff_iff]
    simp
  rw [e]
  clear e
  rw [run_equalIn_struct (P := Try.prog) w (d + 1) 40 _ _ (by simp [Program.fieldsOf, Try.underlying40]) (by kernel_rfl)]
  simp [Program.fieldsOf, Try.underlying40, Op.eqFields, go_sem]
  by_cases h0 : x.id = y.id <;> by_cases h1 : x.frm = y.frm <;> by_cases h2 : x.to = y.to <;> simp [h0, h1, h2]
theorem neqEdge (w : World) (x y : EdgeD) : (binOp .neq 40 (.agg #[.int .i64 x.id, .int .i64 x.frm, .int .i64 x.to]) (.agg #[.int .i64 y.id, .int .i64 y.frm, .int .i64 y.to])).run Try.prog w = .ok (.bool (!decide (x = y))) w := by
  simp only [binOp]
  simp [Op.equal, Op.maxDepth, eqInEdge 9998 w x y]
theorem eqlEdge (w : World) (x y : EdgeD) : (binOp .eql 40 (.agg #[.int .i64 x.id, .int .i64 x.frm, .int .i64 x.to]) (.agg #[.int .i64 y.id, .int .i64 y.frm, .int .i64 y.to])).run Try.prog w = .ok (.bool (decide (x = y))) w := by
  simp only [binOp]
  simp [Op.equal, Op.maxDepth, eqInEdge 9998 w x y]
theorem guardEdge (op : BinOp) (p q : Operand) (xs ys : Array Value) (W : World) : (eqGuard op 40 p q (.agg xs) (.agg ys)).run Try.prog W = .ok () W := by
  have h : Try.prog.eqGuardType Try.prog.depth 40 = false := by kernel_rfl
  unfold eqGuard
  split <;> simp [h]
end Go.Proofs.Ytpehmmdbjakkpaa
