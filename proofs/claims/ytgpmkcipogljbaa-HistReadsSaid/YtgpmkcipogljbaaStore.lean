/- Stores at the operation. -/
import Derived.Test.YtgpmkcipogljbaaDTy
namespace Go.Proofs.Ytgpmkcipogljbaa
open Go.RowKit
set_option linter.unusedSimpArgs false
set_option linter.unusedVariables false
section
variable {ops : Array Oper} {rest : List Oper} {o : Oper} {a : Act} {Q : Exit → Act → World → Prop} {w : World} {g off : Nat}
theorem run_storeI (p v : Operand) (hop : o.op = Op.store 3 p v) (ev : Operand → Value) (hp : ev p = .pointer (some ⟨g, off, none⟩)) {n : Int} (hv : ev v = .int .i64 n) {u : Value} (hc : w.cell? ⟨g, off, none⟩ = some u) (hf : w.frozen? ⟨g, off, none⟩ = false) :
    (execOp ev o).run Try.prog w = .ok .skip (w.setCell ⟨g, off, none⟩ (.int .i64 n)) := by
  simp [execOp, hop, hp, hv, go_sem, hc, hf, Result.andThen, stored]
theorem run_storeR (p v : Operand) (hop : o.op = Op.store 34 p v) (ev : Operand → Value) (hp : ev p = .pointer (some ⟨g, off, none⟩)) {n0 n1 : Int} {A1 A2 A3 : Option Addr} {l1 l2 l3 c1 c2 c3 : Nat} (hv : ev v = .agg #[.int .i64 n0, .int .i64 n1, .slice A1 l1 c1, .slice A2 l2 c2, .slice A3 l3 c3])
    {u0 u1 u2 u3 u4 : Value} (h0 : w.cell? ⟨g, off, none⟩ = some u0) (h1 : w.cell? ⟨g, off + 1, none⟩ = some u1) (h2 : w.cell? ⟨g, off + 2, none⟩ = some u2) (h3 : w.cell? ⟨g, off + 3, none⟩ = some u3) (h4 : w.cell? ⟨g, off + 4, none⟩ = some u4)
    (hf : ∀ j, w.frozen? ⟨g, j, none⟩ = false) :
    (execOp ev o).run Try.prog w = .ok .skip (((((w.setCell ⟨g, off, none⟩ (.int .i64 n0)).setCell ⟨g, off + 1, none⟩ (.int .i64 n1)).setCell ⟨g, off + 2, none⟩ (.slice A1 l1 c1)).setCell ⟨g, off + 3, none⟩ (.slice A2 l2 c2)).setCell ⟨g, off + 4, none⟩ (.slice A3 l3 c3)) := by
  simp [execOp, hop, hp, hv, go_sem, h0, h1, h2, h3, h4, hf, Result.andThen, stored]
theorem wpList_storeI (hg : o.guard = none) (p v : Operand) (hop : o.op = Op.store 3 p v) (hp : a.eval p = .pointer (some ⟨g, off, none⟩)) {n : Int} (hv : a.eval v = .int .i64 n) {u : Value} (hc : w.cell? ⟨g, off, none⟩ = some u) (hf : w.frozen? ⟨g, off, none⟩ = false)
    (hK : ∀ w', Hid (w' = w.setCell ⟨g, off, none⟩ (.int .i64 n)) → wpList Try.prog ops Q rest (a.put o.dst undef) w') : wpList Try.prog ops Q (o :: rest) a w := by
  refine wpList_plain hg fun K' hK' => ?_
  unfold Oper.wp
  rw [run_storeI p v hop a.eval hp hv hc hf]
  exact hK' _ _ (hK _ (Lib.hid rfl))
theorem wpList_storeR (hg : o.guard = none) (p v : Operand) (hop : o.op = Op.store 34 p v) (hp : a.eval p = .pointer (some ⟨g, off, none⟩)) {n0 n1 : Int} {A1 A2 A3 : Option Addr} {l1 l2 l3 c1 c2 c3 : Nat} (hv : a.eval v = .agg #[.int .i64 n0, .int .i64 n1, .slice A1 l1 c1, .slice A2 l2 c2, .slice A3 l3 c3])
    {u0 u1 u2 u3 u4 : Value} (h0 : w.cell? ⟨g, off, none⟩ = some u0) (h1 : w.cell? ⟨g, off + 1, none⟩ = some u1) (h2 : w.cell? ⟨g, off + 2, none⟩ = some u2) (h3 : w.cell? ⟨g, off + 3, none⟩ = some u3) (h4 : w.cell? ⟨g, off + 4, none⟩ = some u4)
    (hf : ∀ j, w.frozen? ⟨g, j, none⟩ = false)
    (hK : ∀ w', Hid (w' = ((((w.setCell ⟨g, off, none⟩ (.int .i64 n0)).setCell ⟨g, off + 1, none⟩ (.int .i64 n1)).setCell ⟨g, off + 2, none⟩ (.slice A1 l1 c1)).setCell ⟨g, off + 3, none⟩ (.slice A2 l2 c2)).setCell ⟨g, off + 4, none⟩ (.slice A3 l3 c3)) → wpList Try.prog ops Q rest (a.put o.dst undef) w') : wpList Try.prog ops Q (o :: rest) a w := by
  refine wpList_plain hg fun K' hK' => ?_
  unfold Oper.wp
  rw [run_storeR p v hop a.eval hp hv h0 h1 h2 h3 h4 hf]
  exact hK' _ _ (hK _ (Lib.hid rfl))
end
theorem cell_far {w : World} {g j i : Nat} {u v : Value} (hne : j ≠ i) (h : w.cell? ⟨g, i, none⟩ = some v) : (w.setCell ⟨g, j, none⟩ u).cell? ⟨g, i, none⟩ = some v := by
  exact (World.cell?_setCell_other w _ _ _ (fun e => hne (by injection e))).trans h
end Go.Proofs.Ytgpmkcipogljbaa
