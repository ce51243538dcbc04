/- Operations in a row. -/
import Derived.Test.YtpehmmdbjakkpaaResTy
import Derived.Test.YtpehmmdbjakkpaaApplyLaw
import Derived.Test.YtpehmmdbjakkpaaSchedV
import Derived.Test.YtpehmmdbjakkpaaTakesA
import Derived.Test.YtpehmmdbjakkpaaAddM
namespace Go.Proofs.Ytpehmmdbjakkpaa
open Go.RowKit Go.Shelf
set_option linter.unusedSimpArgs false
set_option linter.unusedVariables false
def OpD.cells (v : OpD) : List Value := [.int .i64 v.k, .int .i64 v.a, .int .i64 v.b, .int .i64 v.p, .int .i64 v.v]
def tOp : Ty OpD := Ty.flat 5 (by decide) OpD.cells (fun _ => rfl) (fun x u hu => by
  simp only [OpD.cells, List.mem_cons, List.not_mem_nil, or_false] at hu
  rcases hu with rfl | rfl | rfl | rfl | rfl <;> rfl)
theorem Row.atOp {w : World} {S : Nat → Prop} {A : Option Addr} {n c : Nat} {xs : List OpD} (h : Row tOp w S (.slice A n c) xs) {j : Nat} {x : OpD} (hj : xs[j]? = some x) :
    ∃ b off, A = some ⟨b, off, none⟩ ∧ S b ∧ b < w.heap.size ∧ w.cell? ⟨b, off + j * 5, none⟩ = some (.int .i64 x.k) ∧ w.cell? ⟨b, off + j * 5 + 1, none⟩ = some (.int .i64 x.a) ∧ w.cell? ⟨b, off + j * 5 + 2, none⟩ = some (.int .i64 x.b) ∧ w.cell? ⟨b, off + j * 5 + 3, none⟩ = some (.int .i64 x.p) ∧ w.cell? ⟨b, off + j * 5 + 4, none⟩ = some (.int .i64 x.v) := by
  obtain ⟨b, off, cs, hA, hS, hl, hk, hr⟩ := h.at hj
  have hk' : cs = x.cells := hk
  subst hk'
  exact ⟨b, off, hA, hS, hl, hr 0 _ rfl, hr 1 _ rfl, hr 2 _ rfl, hr 3 _ rfl, hr 4 _ rfl⟩
/-- What many operations come to, as it is handed back. -/
def AllPost (w : World) (g : GraphD) (rs : List ResD) (e : Ending) (w' : World) : Prop := ∃ vn ve v rvs, e = .returned (.tuple #[.agg #[vn, ve, .int .i64 g.nn, .int .i64 g.ne], v]) ∧ Gr w' (fun k => w.heap.size ≤ k ∧ v.ownBlock ≠ some k) g vn ve ∧ Own tRV 75 w' (fun k => w.heap.size ≤ k) v rvs ∧ RVs w' (fun k => w.heap.size ≤ k ∧ v.ownBlock ≠ some k) rvs rs ∧ Below w.heap.size w w'
theorem run_rdy {c : CfgD} (hc : c.ok) {l : List OpD} (hl : l.length ≤ 60) {k : Nat} (hk : k ≤ l.length) : Rdy c (stG c .new l k) :=
  (((Inv.new hc).run l (by omega) hk).start (by omega)).rdy hc
end Go.Proofs.Ytpehmmdbjakkpaa
