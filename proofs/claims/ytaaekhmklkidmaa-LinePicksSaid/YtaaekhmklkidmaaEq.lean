/- '==' and '!=' of two operations. -/
import Derived.Test.YtaaekhmklkidmaaOpB
import Derived.Laws.StructEq
namespace Go.Proofs.Ytaaekhmklkidmaa
open Go.RowKit
theorem eqInOp (d : Nat) (w : World) (x y : OpD) : (Op.equalIn (d + 2) 23 (.agg #[.int .i64 x.kind, .int .i64 x.a, .int .i64 x.b, .int .i64 x.k, .int .i64 x.v]) (.agg #[.int .i64 y.kind, .int .i64 y.a, .int .i64 y.b, .int .i64 y.k, .int .i64 y.v])).run Try.prog w = .ok (decide (x = y)) w := by
  have e : decide (x = y) = (x.kind == y.kind && (x.a == y.a && (x.b == y.b && (x.k == y.k && x.v == y.v)))) := by
    obtain ⟨x0, x1, x2, x3, x4⟩ := x
    obtain ⟨y0, y1, y2, y3, y4⟩ := y
    simp only [OpD.mk.injEq]
    rw [Bool.eq_iff_iff]
    simp
  rw [e]
  clear e
  rw [run_equalIn_struct (P := Try.prog) w (d + 1) 23 _ _ (by simp [Program.fieldsOf, Try.underlying23]) (by kernel_rfl)]
  simp [Program.fieldsOf, Try.underlying23, Op.eqFields, go_sem]
  by_cases h0 : x.kind = y.kind <;> by_cases h1 : x.a = y.a <;> by_cases h2 : x.b = y.b <;> by_cases h3 : x.k = y.k <;> by_cases h4 : x.v = y.v <;> simp [h0, h1, h2, h3, h4]
theorem neqOp (w : World) (x y : OpD) : (binOp .neq 23 (.agg #[.int .i64 x.kind, .int .i64 x.a, .int .i64 x.b, .int .i64 x.k, .int .i64 x.v]) (.agg #[.int .i64 y.kind, .int .i64 y.a, .int .i64 y.b, .int .i64 y.k, .int .i64 y.v])).run Try.prog w = .ok (.bool (!decide (x = y))) w := by
  simp only [binOp]
  simp [Op.equal, Op.maxDepth, eqInOp 9998 w x y]
theorem eqlOp (w : World) (x y : OpD) : (binOp .eql 23 (.agg #[.int .i64 x.kind, .int .i64 x.a, .int .i64 x.b, .int .i64 x.k, .int .i64 x.v]) (.agg #[.int .i64 y.kind, .int .i64 y.a, .int .i64 y.b, .int .i64 y.k, .int .i64 y.v])).run Try.prog w = .ok (.bool (decide (x = y))) w := by
  simp only [binOp]
  simp [Op.equal, Op.maxDepth, eqInOp 9998 w x y]
theorem guardOp (op : BinOp) (p q : Operand) (xs ys : Array Value) (W : World) : (eqGuard op 23 p q (.agg xs) (.agg ys)).run Try.prog W = .ok () W := by
  have h : Try.prog.eqGuardType Try.prog.depth 23 = false := by kernel_rfl
  unfold eqGuard
  split <;> simp [h]
theorem exec_neqOp {o : Oper} {a : Act} {p q : Operand} (W : World) (x y : OpD) (ho : o.op = .binOp .neq 23 p q 23) (hp : a.eval p = .agg #[.int .i64 x.kind, .int .i64 x.a, .int .i64 x.b, .int .i64 x.k, .int .i64 x.v]) (hq : a.eval q = .agg #[.int .i64 y.kind, .int .i64 y.a, .int .i64 y.b, .int .i64 y.k, .int .i64 y.v]) :
    (execOp a.eval o).run Try.prog W = .ok (.value (.bool (!decide (x = y)))) W := by
  unfold execOp
  simp [ho, hp, hq, neqOp, guardOp]
theorem exec_eqlOp {o : Oper} {a : Act} {p q : Operand} (W : World) (x y : OpD) (ho : o.op = .binOp .eql 23 p q 23) (hp : a.eval p = .agg #[.int .i64 x.kind, .int .i64 x.a, .int .i64 x.b, .int .i64 x.k, .int .i64 x.v]) (hq : a.eval q = .agg #[.int .i64 y.kind, .int .i64 y.a, .int .i64 y.b, .int .i64 y.k, .int .i64 y.v]) :
    (execOp a.eval o).run Try.prog W = .ok (.value (.bool (decide (x = y)))) W := by
  unfold execOp
  simp [ho, hp, hq, eqlOp, guardOp]
end Go.Proofs.Ytaaekhmklkidmaa
