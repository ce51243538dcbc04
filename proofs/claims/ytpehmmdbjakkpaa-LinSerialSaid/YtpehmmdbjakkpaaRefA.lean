/- The reference's Add and Link. The reference's Link. -/
import Derived.Test.YtpehmmdbjakkpaaCopyG
import Derived.Test.YtpehmmdbjakkpaaAddM
namespace Go.Proofs.Ytpehmmdbjakkpaa
open Go.RowKit Go.Shelf
set_option linter.unusedSimpArgs false
set_option linter.unusedVariables false
/-- A graph of the reference's own: nodes and edges in blocks of their own; the properties anywhere else. -/
structure RefG (w : World) (B : Nat) (g : GraphD) (vn ve : Value) (nvs : List NV) : Prop where
  nodes : Own tNV 32 w (fun k => B ≤ k) vn nvs
  edges : Own tEdge 40 w (fun k => B ≤ k) ve g.edges
  pairs : NVs w (fun j => B ≤ j ∧ vn.ownBlock ≠ some j ∧ ve.ownBlock ≠ some j) nvs g.nodes
  ne : ∀ j, ve.ownBlock = some j → vn.ownBlock ≠ some j
theorem RefG.gr {w : World} {B : Nat} {g : GraphD} {vn ve : Value} {nvs : List NV} (h : RefG w B g vn ve nvs) : Gr w (fun k => B ≤ k) g vn ve := ⟨⟨nvs, h.nodes.row, h.pairs.mono fun _ h _ => h.1⟩, h.edges.row⟩
theorem RefG.move {w w' : World} {B : Nat} {g : GraphD} {vn ve : Value} {nvs : List NV} (h : RefG w B g vn ve nvs) (hs : Same (fun k => B ≤ k) w w') : RefG w' B g vn ve nvs := ⟨h.nodes.move hs, h.edges.move hs, h.pairs.move (hs.mono fun _ h => h.1), h.ne⟩
theorem RefG.below {w w' : World} {B : Nat} {g : GraphD} {vn ve : Value} {nvs : List NV} (h : RefG w B g vn ve nvs) (hb : Below w.heap.size w w') : RefG w' B g vn ve nvs := ⟨h.nodes.below hb, h.edges.below hb, h.pairs.below hb, h.ne⟩
theorem RefG.mono {w : World} {B B' : Nat} {g : GraphD} {vn ve : Value} {nvs : List NV} (h : RefG w B g vn ve nvs) (hB : B' ≤ B) : RefG w B' g vn ve nvs := ⟨h.nodes.mono fun k h _ => Nat.le_trans hB h, h.edges.mono fun k h _ => Nat.le_trans hB h, h.pairs.mono fun k h _ => ⟨Nat.le_trans hB h.1, h.2⟩, h.ne⟩
end Go.Proofs.Ytpehmmdbjakkpaa
namespace Go.Proofs.Ytpehmmdbjakkpaa
open Go.RowKit Go.Shelf
set_option linter.unusedSimpArgs false
set_option linter.unusedVariables false
end Go.Proofs.Ytpehmmdbjakkpaa

