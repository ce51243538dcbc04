/- What stands in memory while a graph is tried: the configuration, the graph, its copy, and two results. -/
import Derived.Test.YtpehmmdbjakkpaaRefFuse
import Derived.Test.YtpehmmdbjakkpaaGraphEdgesW
namespace Go.Proofs.Ytpehmmdbjakkpaa
open Go.RowKit Go.Shelf
set_option linter.unusedSimpArgs false
set_option linter.unusedVariables false
def CfgD.row5 (c : CfgD) : Array Value := #[.int .i64 c.nodes, .int .i64 c.edges, .int .i64 c.props, .int .i64 c.ids, .int .i64 c.eids]
/-- In none of three boxes. -/
def Off (a b d : Nat) (k : Nat) : Prop := k ≠ a ∧ k ≠ b ∧ k ≠ d
structure DoSt (w : World) (c : CfgD) (g : GraphD) (vn ve : Value) (o9 o10 o13 : Nat) (W : World) (v9n v9e : Value) (x : GraphD) (xn xe : Value) (y : GraphD) (yn ye : Value) : Prop where
  K : Below w.heap.size w W
  cf : W.heap[w.heap.size]? = some (.cells c.row5 23 (0, 0))
  bg : Box4 W (w.heap.size + 1) vn ve (.int .i64 g.nn) (.int .i64 g.ne)
  b9 : Box4 W o9 v9n v9e (.int .i64 g.nn) (.int .i64 g.ne)
  b10 : Box4 W o10 xn xe (.int .i64 x.nn) (.int .i64 x.ne)
  b13 : Box4 W o13 yn ye (.int .i64 y.nn) (.int .i64 y.ne)
  hg : Gr W (fun k => k < w.heap.size) g vn ve
  h9 : Gr W (Off o9 o10 o13) g v9n v9e
  hx : Gr W (Off o9 o10 o13) x xn xe
  hy : Gr W (Off o9 o10 o13) y yn ye
  o1 : w.heap.size + 1 < o9
  o2 : o9 < o10
  o3 : o10 < o13
  o4 : o13 < W.heap.size
section
variable {w W W' : World} {c : CfgD} {g x y : GraphD} {vn ve v9n v9e xn xe yn ye : Value} {o9 o10 o13 : Nat}
theorem DoSt.below (h : DoSt w c g vn ve o9 o10 o13 W v9n v9e x xn xe y yn ye) (hb : Below W.heap.size W W') : DoSt w c g vn ve o9 o10 o13 W' v9n v9e x xn xe y yn ye := by
  have h1 := h.o1
  have h2 := h.o2
  have h3 := h.o3
  have h4 := h.o4
  have h5 := hb.size
  exact ⟨h.K.trans (hb.mono h.K.size), (hb.block _ (by omega)).trans h.cf, h.bg.keep (hb.block _ (by omega)), h.b9.keep (hb.block _ (by omega)), h.b10.keep (hb.block _ (by omega)), h.b13.keep (hb.block _ (by omega)), h.hg.below hb, h.h9.below hb, h.hx.below hb, h.hy.below hb, h1, h2, h3, by omega⟩
theorem DoSt.put10 (h : DoSt w c g vn ve o9 o10 o13 W v9n v9e x xn xe y yn ye) {z : GraphD} {zn ze : Value} (hz : Gr W (Off o9 o10 o13) z zn ze) : DoSt w c g vn ve o9 o10 o13 (set4 W o10 zn ze (.int .i64 z.nn) (.int .i64 z.ne)) v9n v9e z zn ze y yn ye := by
  have h1 := h.o1
  have h2 := h.o2
  have h3 := h.o3
  have h4 := h.o4
  have hs : Same (Off o9 o10 o13) W (set4 W o10 zn ze (.int .i64 z.nn) (.int .i64 z.ne)) := fun k hk _ => set4_heap _ _ _ _ _ _ k hk.2.1
  exact ⟨set4_below h.K (by omega) _ _ _ _, (set4_heap _ _ _ _ _ _ _ (by omega)).trans h.cf, h.bg.other4 (by omega) _ _ _ _, h.b9.other4 (by omega) _ _ _ _, h.b10.set _ _ _ _, h.b13.other4 (by omega) _ _ _ _, h.hg.move (fun k (hk : k < w.heap.size) _ => set4_heap _ _ _ _ _ _ k (by omega)), h.h9.move hs, hz.move hs, h.hy.move hs, h1, h2, h3, by rw [set4_size]; exact h4⟩
theorem DoSt.put13 (h : DoSt w c g vn ve o9 o10 o13 W v9n v9e x xn xe y yn ye) {z : GraphD} {zn ze : Value} (hz : Gr W (Off o9 o10 o13) z zn ze) : DoSt w c g vn ve o9 o10 o13 (set4 W o13 zn ze (.int .i64 z.nn) (.int .i64 z.ne)) v9n v9e x xn xe z zn ze := by
  have h1 := h.o1
  have h2 := h.o2
  have h3 := h.o3
  have h4 := h.o4
  have hs : Same (Off o9 o10 o13) W (set4 W o13 zn ze (.int .i64 z.nn) (.int .i64 z.ne)) := fun k hk _ => set4_heap _ _ _ _ _ _ k hk.2.2
  exact ⟨set4_below h.K (by omega) _ _ _ _, (set4_heap _ _ _ _ _ _ _ (by omega)).trans h.cf, h.bg.other4 (by omega) _ _ _ _, h.b9.other4 (by omega) _ _ _ _, h.b10.other4 (by omega) _ _ _ _, h.b13.set _ _ _ _, h.hg.move (fun k (hk : k < w.heap.size) _ => set4_heap _ _ _ _ _ _ k (by omega)), h.h9.move hs, h.hx.move hs, hz.move hs, h1, h2, h3, by rw [set4_size]; exact h4⟩
theorem DoSt.cells (h : DoSt w c g vn ve o9 o10 o13 W v9n v9e x xn xe y yn ye) : W.cell? ⟨w.heap.size, 0, none⟩ = some (.int .i64 c.nodes) ∧ W.cell? ⟨w.heap.size, 1, none⟩ = some (.int .i64 c.edges) ∧ W.cell? ⟨w.heap.size, 2, none⟩ = some (.int .i64 c.props) ∧ W.cell? ⟨w.heap.size, 3, none⟩ = some (.int .i64 c.ids) ∧ W.cell? ⟨w.heap.size, 4, none⟩ = some (.int .i64 c.eids) := by
  have h1 := h.cf
  unfold CfgD.row5 at h1
  simp [World.cell?, h1]
end
theorem Gr.off {W : World} {B a b d : Nat} {z : GraphD} {zn ze : Value} (h : Gr W (fun k => B ≤ k) z zn ze) (h1 : a < B) (h2 : b < B) (h3 : d < B) : Gr W (Off a b d) z zn ze := h.mono fun k (hk : B ≤ k) _ => ⟨by omega, by omega, by omega⟩
theorem Gr.three {W : World} {S : Nat → Prop} {z : GraphD} {zn ze : Value} (h : Gr W S z zn ze) : (∃ A L c, zn = .slice A L c) ∧ ∃ A L c, ze = .slice A L c := by
  obtain ⟨⟨A, c, h1⟩, ⟨B, d, h2⟩⟩ := h.slices
  exact ⟨⟨A, _, c, h1⟩, ⟨B, _, d, h2⟩⟩
end Go.Proofs.Ytpehmmdbjakkpaa
