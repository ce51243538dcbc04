/- A graph in a box of the call's own. -/
import Derived.Test.YtpehmmdbjakkpaaWithout
import Derived.Test.YtpehmmdbjakkpaaAppend
namespace Go.Proofs.Ytpehmmdbjakkpaa
open Go.RowKit Go.Shelf
set_option linter.unusedSimpArgs false
set_option linter.unusedVariables false
structure Box4 (W : World) (b : Nat) (v0 v1 v2 v3 : Value) : Prop where
  c0 : W.cell? ⟨b, 0, none⟩ = some v0
  c1 : W.cell? ⟨b, 1, none⟩ = some v1
  c2 : W.cell? ⟨b, 2, none⟩ = some v2
  c3 : W.cell? ⟨b, 3, none⟩ = some v3
  fz : ∀ o, W.frozen? ⟨b, o, none⟩ = false
theorem Box4.keep {W W' : World} {b : Nat} {v0 v1 v2 v3 : Value} (h : Box4 W b v0 v1 v2 v3) (hb : W'.heap[b]? = W.heap[b]?) : Box4 W' b v0 v1 v2 v3 :=
  ⟨(World.cell?_of_block hb).trans h.c0, (World.cell?_of_block hb).trans h.c1, (World.cell?_of_block hb).trans h.c2, (World.cell?_of_block hb).trans h.c3, fun o => (World.frozen?_of_block hb).trans (h.fz o)⟩
theorem Box4.set0 {W : World} {b : Nat} {v0 v1 v2 v3 : Value} (h : Box4 W b v0 v1 v2 v3) (u : Value) : Box4 (W.setCell ⟨b, 0, none⟩ u) b u v1 v2 v3 :=
  ⟨World.cell?_setCell_same _ _ _ h.c0, by rw [World.cell?_setCell_other _ _ _ _ (by simp), h.c1], by rw [World.cell?_setCell_other _ _ _ _ (by simp), h.c2], by rw [World.cell?_setCell_other _ _ _ _ (by simp), h.c3], fun o => by rw [World.frozen?_setCell]; exact h.fz o⟩
theorem Box4.set1 {W : World} {b : Nat} {v0 v1 v2 v3 : Value} (h : Box4 W b v0 v1 v2 v3) (u : Value) : Box4 (W.setCell ⟨b, 1, none⟩ u) b v0 u v2 v3 :=
  ⟨by rw [World.cell?_setCell_other _ _ _ _ (by simp), h.c0], World.cell?_setCell_same _ _ _ h.c1, by rw [World.cell?_setCell_other _ _ _ _ (by simp), h.c2], by rw [World.cell?_setCell_other _ _ _ _ (by simp), h.c3], fun o => by rw [World.frozen?_setCell]; exact h.fz o⟩
theorem Box4.set2 {W : World} {b : Nat} {v0 v1 v2 v3 : Value} (h : Box4 W b v0 v1 v2 v3) (u : Value) : Box4 (W.setCell ⟨b, 2, none⟩ u) b v0 v1 u v3 :=
  ⟨by rw [World.cell?_setCell_other _ _ _ _ (by simp), h.c0], by rw [World.cell?_setCell_other _ _ _ _ (by simp), h.c1], World.cell?_setCell_same _ _ _ h.c2, by rw [World.cell?_setCell_other _ _ _ _ (by simp), h.c3], fun o => by rw [World.frozen?_setCell]; exact h.fz o⟩
theorem Box4.set3 {W : World} {b : Nat} {v0 v1 v2 v3 : Value} (h : Box4 W b v0 v1 v2 v3) (u : Value) : Box4 (W.setCell ⟨b, 3, none⟩ u) b v0 v1 v2 u :=
  ⟨by rw [World.cell?_setCell_other _ _ _ _ (by simp), h.c0], by rw [World.cell?_setCell_other _ _ _ _ (by simp), h.c1], by rw [World.cell?_setCell_other _ _ _ _ (by simp), h.c2], World.cell?_setCell_same _ _ _ h.c3, fun o => by rw [World.frozen?_setCell]; exact h.fz o⟩
theorem Box4.other {W : World} {b b' : Nat} {v0 v1 v2 v3 : Value} (h : Box4 W b v0 v1 v2 v3) (hb : b ≠ b') (o : Nat) (u : Value) : Box4 (W.setCell ⟨b', o, none⟩ u) b v0 v1 v2 v3 := h.keep (Below.heap_setCell W ⟨b', o, none⟩ u b hb)
/-- All four are written. -/
def set4 (W : World) (b : Nat) (v0 v1 v2 v3 : Value) : World := (((W.setCell ⟨b, 0, none⟩ v0).setCell ⟨b, 1, none⟩ v1).setCell ⟨b, 2, none⟩ v2).setCell ⟨b, 3, none⟩ v3
theorem Box4.set {W : World} {b : Nat} {u0 u1 u2 u3 : Value} (h : Box4 W b u0 u1 u2 u3) (v0 v1 v2 v3 : Value) : Box4 (set4 W b v0 v1 v2 v3) b v0 v1 v2 v3 := (((h.set0 v0).set1 v1).set2 v2).set3 v3
theorem Box4.other4 {W : World} {b b' : Nat} {u0 u1 u2 u3 : Value} (h : Box4 W b u0 u1 u2 u3) (hb : b ≠ b') (v0 v1 v2 v3 : Value) : Box4 (set4 W b' v0 v1 v2 v3) b u0 u1 u2 u3 := (((h.other hb 0 v0).other hb 1 v1).other hb 2 v2).other hb 3 v3
theorem set4_heap (W : World) (b : Nat) (v0 v1 v2 v3 : Value) (k : Nat) (hk : k ≠ b) : (set4 W b v0 v1 v2 v3).heap[k]? = W.heap[k]? := by
  unfold set4
  rw [Below.heap_setCell _ ⟨b, 3, none⟩ _ k hk, Below.heap_setCell _ ⟨b, 2, none⟩ _ k hk, Below.heap_setCell _ ⟨b, 1, none⟩ _ k hk, Below.heap_setCell _ ⟨b, 0, none⟩ _ k hk]
theorem set4_size (W : World) (b : Nat) (v0 v1 v2 v3 : Value) : (set4 W b v0 v1 v2 v3).heap.size = W.heap.size := by simp [set4]
theorem set4_below {B : Nat} {w0 W : World} {b : Nat} (h : Below B w0 W) (hb : B ≤ b) (v0 v1 v2 v3 : Value) : Below B w0 (set4 W b v0 v1 v2 v3) := (((h.setCell hb v0).setCell hb v1).setCell hb v2).setCell hb v3
theorem Box4.made (W : World) (e : TypeId) (v0 v1 v2 v3 : Value) : Box4 (W.alloc (.cells #[v0, v1, v2, v3] e)) W.heap.size v0 v1 v2 v3 := ⟨by simp [go_sem], by simp [go_sem], by simp [go_sem], by simp [go_sem], fun o => by simp [go_sem]⟩
/-- What stays of a graph of the call's own when only its nodes' block is written. -/
theorem OwnG.restN {w w' : World} {B : Nat} {g : GraphD} {vn ve : Value} {nvs : List NV} (h : OwnG w B g vn ve nvs) (hs : ∀ k, B ≤ k → vn.ownBlock ≠ some k → k < w.heap.size → w'.heap[k]? = w.heap[k]?) : NVs w' (fun k => B ≤ k) nvs g.nodes ∧ Own tEdge 40 w' (fun k => B ≤ k) ve g.edges := by
  refine ⟨⟨h.len, fun j v x hv hx => ⟨(h.each j v x hv hx).1, ?_⟩⟩, h.edges.keepFlat fun k hk => hs k (h.edges.1 k hk) (fun e => h.ne k e hk) (h.edges.lt k hk)⟩
  have ho := (h.each j v x hv hx).2
  exact (ho.keepFlat fun k hk => hs k (ho.1 k hk) (fun e => (h.np j v k hv hk).1 e) (ho.lt k hk)).row
/-- .. when only its edges' block is written. -/
theorem OwnG.restE {w w' : World} {B : Nat} {g : GraphD} {vn ve : Value} {nvs : List NV} (h : OwnG w B g vn ve nvs) (hs : ∀ k, B ≤ k → ve.ownBlock ≠ some k → k < w.heap.size → w'.heap[k]? = w.heap[k]?) : NVs w' (fun k => B ≤ k) nvs g.nodes ∧ Own tNV 32 w' (fun k => B ≤ k) vn nvs := by
  refine ⟨⟨h.len, fun j v x hv hx => ⟨(h.each j v x hv hx).1, ?_⟩⟩, h.nodes.keepFlat fun k hk => hs k (h.nodes.1 k hk) (fun e => h.ne k hk e) (h.nodes.lt k hk)⟩
  have ho := (h.each j v x hv hx).2
  exact (ho.keepFlat fun k hk => hs k (ho.1 k hk) (fun e => (h.np j v k hv hk).2 e) (ho.lt k hk)).row
end Go.Proofs.Ytpehmmdbjakkpaa
