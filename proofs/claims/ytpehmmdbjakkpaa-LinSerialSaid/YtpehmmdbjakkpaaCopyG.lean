/- The reference's Copy. -/
import Derived.Test.YtpehmmdbjakkpaaSameG
import Derived.Test.YtpehmmdbjakkpaaLibM
namespace Go.Proofs.Ytpehmmdbjakkpaa
open Go.RowKit Go.Shelf
set_option linter.unusedSimpArgs false
set_option linter.unusedVariables false
set_option maxRecDepth 20000
/-- A graph's copy: its nodes and its edges may be written, and its nodes' properties lie elsewhere. -/
def CopyPost (w : World) (g : GraphD) (e : Ending) (w' : World) : Prop := ∃ vn' ve' nvs, e = .returned (.agg #[vn', ve', .int .i64 g.nn, .int .i64 g.ne]) ∧ Own tNV 32 w' (fun k => w.heap.size ≤ k) vn' nvs ∧ Own tEdge 40 w' (fun k => w.heap.size ≤ k) ve' g.edges ∧ NVs w' (fun j => w.heap.size ≤ j ∧ vn'.ownBlock ≠ some j ∧ ve'.ownBlock ≠ some j) nvs g.nodes ∧ (∀ j, ve'.ownBlock = some j → vn'.ownBlock ≠ some j) ∧ Below w.heap.size w w'
theorem CopyPost.gr {w w' : World} {g : GraphD} {e : Ending} (h : CopyPost w g e w') : ∃ vn' ve', e = .returned (.agg #[vn', ve', .int .i64 g.nn, .int .i64 g.ne]) ∧ Gr w' (fun k => w.heap.size ≤ k) g vn' ve' ∧ Below w.heap.size w w' := by
  obtain ⟨vn', ve', nvs, he, h1, h2, h3, _, hb⟩ := h
  exact ⟨vn', ve', he, ⟨⟨nvs, h1.row, h3.mono fun j hj _ => hj.1⟩, h2.row⟩, hb⟩
end Go.Proofs.Ytpehmmdbjakkpaa
