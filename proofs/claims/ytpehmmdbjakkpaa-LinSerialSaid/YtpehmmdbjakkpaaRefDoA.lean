/- tendrilref11.Do. -/
import Derived.Test.YtpehmmdbjakkpaaDoA
import Derived.Test.YtpehmmdbjakkpaaApplyLaw
import Derived.Test.YtpehmmdbjakkpaaRefA
import Derived.Test.YtpehmmdbjakkpaaRefNear
import Derived.Test.YtpehmmdbjakkpaaRefFuse
import Derived.Test.YtpehmmdbjakkpaaRefDel
namespace Go.Proofs.Ytpehmmdbjakkpaa
open Go.RowKit Go.Shelf
set_option linter.unusedSimpArgs false
set_option linter.unusedVariables false
structure Box5 (W : World) (b : Nat) (v0 v1 v2 v3 v4 : Value) : Prop where
  c0 : W.cell? ⟨b, 0, none⟩ = some v0
  c1 : W.cell? ⟨b, 1, none⟩ = some v1
  c2 : W.cell? ⟨b, 2, none⟩ = some v2
  c3 : W.cell? ⟨b, 3, none⟩ = some v3
  c4 : W.cell? ⟨b, 4, none⟩ = some v4
  fz : ∀ o, W.frozen? ⟨b, o, none⟩ = false
section
variable {W W' : World} {b b' : Nat} {v0 v1 v2 v3 v4 : Value}
theorem Box5.keep (h : Box5 W b v0 v1 v2 v3 v4) (hb : W'.heap[b]? = W.heap[b]?) : Box5 W' b v0 v1 v2 v3 v4 :=
  ⟨(World.cell?_of_block hb).trans h.c0, (World.cell?_of_block hb).trans h.c1, (World.cell?_of_block hb).trans h.c2, (World.cell?_of_block hb).trans h.c3, (World.cell?_of_block hb).trans h.c4, fun o => (World.frozen?_of_block hb).trans (h.fz o)⟩
theorem Box5.other (h : Box5 W b v0 v1 v2 v3 v4) (hb : b ≠ b') (o : Nat) (u : Value) : Box5 (W.setCell ⟨b', o, none⟩ u) b v0 v1 v2 v3 v4 := h.keep (Below.heap_setCell W ⟨b', o, none⟩ u b hb)
theorem Box5.of {n : TypeId} (h : W.heap[b]? = some (.cells #[v0, v1, v2, v3, v4] n (0, 0))) : Box5 W b v0 v1 v2 v3 v4 := ⟨by simp [World.cell?, h], by simp [World.cell?, h], by simp [World.cell?, h], by simp [World.cell?, h], by simp [World.cell?, h], fun o => by simp [World.frozen?, h]⟩
theorem Box4.of {n : TypeId} (h : W.heap[b]? = some (.cells #[v0, v1, v2, v3] n (0, 0))) : Box4 W b v0 v1 v2 v3 := ⟨by simp [World.cell?, h], by simp [World.cell?, h], by simp [World.cell?, h], by simp [World.cell?, h], fun o => by simp [World.frozen?, h]⟩
theorem Box5.set0 (h : Box5 W b v0 v1 v2 v3 v4) (u : Value) : Box5 (W.setCell ⟨b, 0, none⟩ u) b u v1 v2 v3 v4 :=
  ⟨World.cell?_setCell_same _ _ _ h.c0, by rw [World.cell?_setCell_other _ _ _ _ (by simp), h.c1], by rw [World.cell?_setCell_other _ _ _ _ (by simp), h.c2], by rw [World.cell?_setCell_other _ _ _ _ (by simp), h.c3], by rw [World.cell?_setCell_other _ _ _ _ (by simp), h.c4], fun o => by rw [World.frozen?_setCell]; exact h.fz o⟩
theorem Box5.set1 (h : Box5 W b v0 v1 v2 v3 v4) (u : Value) : Box5 (W.setCell ⟨b, 1, none⟩ u) b v0 u v2 v3 v4 :=
  ⟨by rw [World.cell?_setCell_other _ _ _ _ (by simp), h.c0], World.cell?_setCell_same _ _ _ h.c1, by rw [World.cell?_setCell_other _ _ _ _ (by simp), h.c2], by rw [World.cell?_setCell_other _ _ _ _ (by simp), h.c3], by rw [World.cell?_setCell_other _ _ _ _ (by simp), h.c4], fun o => by rw [World.frozen?_setCell]; exact h.fz o⟩
theorem Box5.set2 (h : Box5 W b v0 v1 v2 v3 v4) (u : Value) : Box5 (W.setCell ⟨b, 2, none⟩ u) b v0 v1 u v3 v4 :=
  ⟨by rw [World.cell?_setCell_other _ _ _ _ (by simp), h.c0], by rw [World.cell?_setCell_other _ _ _ _ (by simp), h.c1], World.cell?_setCell_same _ _ _ h.c2, by rw [World.cell?_setCell_other _ _ _ _ (by simp), h.c3], by rw [World.cell?_setCell_other _ _ _ _ (by simp), h.c4], fun o => by rw [World.frozen?_setCell]; exact h.fz o⟩
theorem Box5.set3 (h : Box5 W b v0 v1 v2 v3 v4) (u : Value) : Box5 (W.setCell ⟨b, 3, none⟩ u) b v0 v1 v2 u v4 :=
  ⟨by rw [World.cell?_setCell_other _ _ _ _ (by simp), h.c0], by rw [World.cell?_setCell_other _ _ _ _ (by simp), h.c1], by rw [World.cell?_setCell_other _ _ _ _ (by simp), h.c2], World.cell?_setCell_same _ _ _ h.c3, by rw [World.cell?_setCell_other _ _ _ _ (by simp), h.c4], fun o => by rw [World.frozen?_setCell]; exact h.fz o⟩
theorem Box5.set4 (h : Box5 W b v0 v1 v2 v3 v4) (u : Value) : Box5 (W.setCell ⟨b, 4, none⟩ u) b v0 v1 v2 v3 u :=
  ⟨by rw [World.cell?_setCell_other _ _ _ _ (by simp), h.c0], by rw [World.cell?_setCell_other _ _ _ _ (by simp), h.c1], by rw [World.cell?_setCell_other _ _ _ _ (by simp), h.c2], by rw [World.cell?_setCell_other _ _ _ _ (by simp), h.c3], World.cell?_setCell_same _ _ _ h.c4, fun o => by rw [World.frozen?_setCell]; exact h.fz o⟩
end
/-- The boxes of tendrilref11.Do. -/
structure RD (w : World) (c : CfgD) (g : GraphD) (vn ve : Value) (o : OpD) (z : GraphD) (r : ResD) (zn ze vp vo vi : Value) (W : World) : Prop where
  K : Below w.heap.size w W
  hl : w.heap.size + 7 ≤ W.heap.size
  cf : Box5 W w.heap.size (.int .i64 c.nodes) (.int .i64 c.edges) (.int .i64 c.props) (.int .i64 c.ids) (.int .i64 c.eids)
  bg : Box4 W (w.heap.size + 1) vn ve (.int .i64 g.nn) (.int .i64 g.ne)
  op : Box5 W (w.heap.size + 1 + 1) (.int .i64 o.k) (.int .i64 o.a) (.int .i64 o.b) (.int .i64 o.p) (.int .i64 o.v)
  b3 : Box4 W (w.heap.size + 1 + 1 + 1) (.slice none 0 0) (.slice none 0 0) (.int .i64 0) (.int .i64 0)
  b4 : Box5 W (w.heap.size + 1 + 1 + 1 + 1) (.int .i64 0) (.int .i64 0) (.slice none 0 0) (.slice none 0 0) (.slice none 0 0)
  bh : Box4 W (w.heap.size + 1 + 1 + 1 + 1 + 1) zn ze (.int .i64 z.nn) (.int .i64 z.ne)
  br : Box5 W (w.heap.size + 1 + 1 + 1 + 1 + 1 + 1) (.int .i64 r.st) (.int .i64 r.id) vp vo vi
  hg : Gr W (fun k => k < w.heap.size) g vn ve
  hz : Gr W (fun k => w.heap.size + 7 ≤ k ∨ k < w.heap.size) z zn ze
  hp : Row tP W (fun k => w.heap.size + 7 ≤ k) vp r.ps
  ho : Row tP W (fun k => w.heap.size + 7 ≤ k) vo r.os
  hi : Row tP W (fun k => w.heap.size + 7 ≤ k) vi r.is
section
variable {w : World} {c : CfgD} {g : GraphD} {vn ve : Value} {o : OpD} {z : GraphD} {r : ResD} {zn ze vp vo vi : Value} {W W' : World}
theorem RD.below (h : RD w c g vn ve o z r zn ze vp vo vi W) (hb : Below W.heap.size W W') : RD w c g vn ve o z r zn ze vp vo vi W' := by
  have h1 := h.hl
  exact ⟨h.K.trans (hb.mono h.K.size), Nat.le_trans h1 hb.size, h.cf.keep (hb.block _ (by omega)), h.bg.keep (hb.block _ (by omega)), h.op.keep (hb.block _ (by omega)), h.b3.keep (hb.block _ (by omega)), h.b4.keep (hb.block _ (by omega)), h.bh.keep (hb.block _ (by omega)), h.br.keep (hb.block _ (by omega)), h.hg.below hb, h.hz.below hb, h.hp.below hb, h.ho.below hb, h.hi.below hb⟩
end
end Go.Proofs.Ytpehmmdbjakkpaa
