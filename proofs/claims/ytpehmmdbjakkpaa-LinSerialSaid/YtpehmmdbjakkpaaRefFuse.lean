/- The reference's Fuse. -/
import Derived.Test.YtpehmmdbjakkpaaRefC
import Derived.Test.YtpehmmdbjakkpaaLiveM
namespace Go.Proofs.Ytpehmmdbjakkpaa
open Go.RowKit Go.Shelf
set_option linter.unusedSimpArgs false
set_option linter.unusedVariables false
/-- A graph of the reference's own, in blocks of S. -/
structure RefS (w : World) (S : Nat → Prop) (g : GraphD) (vn ve : Value) (nvs : List NV) : Prop where
  nodes : Own tNV 32 w S vn nvs
  edges : Own tEdge 40 w S ve g.edges
  pairs : NVs w (fun j => S j ∧ vn.ownBlock ≠ some j ∧ ve.ownBlock ≠ some j) nvs g.nodes
  ne : ∀ j, ve.ownBlock = some j → vn.ownBlock ≠ some j
theorem RefS.gr {w : World} {S : Nat → Prop} {g : GraphD} {vn ve : Value} {nvs : List NV} (h : RefS w S g vn ve nvs) : Gr w S g vn ve := ⟨⟨nvs, h.nodes.row, h.pairs.mono fun _ h _ => h.1⟩, h.edges.row⟩
theorem RefS.move {w w' : World} {S : Nat → Prop} {g : GraphD} {vn ve : Value} {nvs : List NV} (h : RefS w S g vn ve nvs) (hs : Same S w w') : RefS w' S g vn ve nvs := ⟨h.nodes.move hs, h.edges.move hs, h.pairs.move (hs.mono fun _ h => h.1), h.ne⟩
theorem RefS.mono {w : World} {S S' : Nat → Prop} {g : GraphD} {vn ve : Value} {nvs : List NV} (h : RefS w S g vn ve nvs) (hs : ∀ k, S k → k < w.heap.size → S' k) : RefS w S' g vn ve nvs := ⟨h.nodes.mono hs, h.edges.mono hs, h.pairs.mono fun k h hl => ⟨hs k h.1 hl, h.2⟩, h.ne⟩
end Go.Proofs.Ytpehmmdbjakkpaa
