/- tendrilref11.Do. -/
import Derived.Test.YtpehmmdbjakkpaaGreatDoA
import Derived.Test.YtpehmmdbjakkpaaGreatApplyLaw
import Derived.Test.YtpehmmdbjakkpaaGreatRefA
import Derived.Test.YtpehmmdbjakkpaaGreatRefNear
import Derived.Test.YtpehmmdbjakkpaaGreatRefFuse
import Derived.Test.YtpehmmdbjakkpaaGreatRefDel
namespace Go.Proofs.YtpehmmdbjakkpaaGreat
open Go.RowKit Go.Shelf
set_option linter.unusedSimpArgs false
set_option linter.unusedVariables false
structure Box5 (W : World) (b : Nat) (v0 v1 v2 v3 v4 : Value) : Prop where
 c0 : W.cell? ⟨b, 0, none⟩ = some v0
 c1 : W.cell? ⟨b, 1, none⟩ = some v1
 c2 : W.cell? ⟨b, 2, none⟩ = some v2
 c3 : W.cell? ⟨b, 3, none⟩ = some v3
 c4 : W.cell? ⟨b, 4, none⟩ = some v4
 fz : ∀ o, W.frozen? ⟨b, o, none⟩ = false
section
variable {W W' : World} {b b' : Nat} {v0 v1 v2 v3 v4 : Value}
theorem Box5.keep (h : Box5 W b v0 v1 v2 v3 v4) (hb : W'.heap[b]? = W.heap[b]?) : Box5 W' b v0 v1 v2 v3 v4 :=
 ⟨(World.cell?_of_block hb).trans h.c0, (World.cell?_of_block hb).trans h.c1, (World.cell?_of_block hb).trans h.c2, (World.cell?_of_block hb).trans h.c3, (World.cell?_of_block hb).trans h.c4, fun o => (World.frozen?_of_block hb).trans (h.fz o)⟩
theorem Box5.other (h : Box5 W b v0 v1 v2 v3 v4) (hb : b ≠ b') (o : Nat) (u : Value) : Box5 (W.setCell ⟨b', o, none⟩ u) b v0 v1 v2 v3 v4 := h.keep (Below.heap_setCell W ⟨b', o, none⟩ u b hb)
theorem Box5.of {n : TypeId} (h : W.heap[b]? = some (.cells #[v0, v1, v2, v3, v4] n (0, 0))) : Box5 W b v0 v1 v2 v3 v4 := ⟨by simp [World.cell?, h], by simp [World.cell?, h], by simp [World.cell?, h], by simp [World.cell?, h], by simp [World.cell?, h], fun o => by simp [World.frozen?, h]⟩
theorem Box4.of {n : TypeId} (h : W.heap[b]? = some (.cells #[v0, v1, v2, v3] n (0, 0))) : Box4 W b v0 v1 v2 v3 := ⟨by simp [World.cell?, h], by simp [World.cell?, h], by simp [World.cell?, h], by simp [World.cell?, h], fun o => by simp [World.frozen?, h]⟩
theorem Box5.set0 (h : Box5 W b v0 v1 v2 v3 v4) (u : Value) : Box5 (W.setCell ⟨b, 0, none⟩ u) b u v1 v2 v3 v4 :=
 ⟨World.cell?_setCell_same _ _ _ h.c0, by rw [World.cell?_setCell_other _ _ _ _ (by simp), h.c1], by rw [World.cell?_setCell_other _ _ _ _ (by simp), h.c2], by rw [World.cell?_setCell_other _ _ _ _ (by simp), h.c3], by rw [World.cell?_setCell_other _ _ _ _ (by simp), h.c4], fun o => by rw [World.frozen?_setCell]; exact h.fz o⟩
theorem Box5.set1 (h : Box5 W b v0 v1 v2 v3 v4) (u : Value) : Box5 (W.setCell ⟨b, 1, none⟩ u) b v0 u v2 v3 v4 :=
 ⟨by rw [World.cell?_setCell_other _ _ _ _ (by simp), h.c0], World.cell?_setCell_same _ _ _ h.c1, by rw [World.cell?_setCell_other _ _ _ _ (by simp), h.c2], by rw [World.cell?_setCell_other _ _ _ _ (by simp), h.c3], by rw [World.cell?_setCell_other _ _ _ _ (by simp), h.c4], fun o => by rw [World.frozen?_setCell]; exact h.fz o⟩
theorem Box5.set2 (h : Box5 W b v0 v1 v2 v3 v4) (u : Value) : Box5 (W.setCell ⟨b, 2, none⟩ u) b v0 v1 u v3 v4 :=
 ⟨by rw [World.cell?_setCell_other _ _ _ _ (by simp), h.c0], by rw [World.cell?_setCell_other _ _ _ _ (by simp), h.c1], World.cell?_setCell_same _ _ _ h.c2, by rw [World.cell?_setCell_other _ _ _ _ (by simp), h.c3], by rw [World.cell?_setCell_other _ _ _ _ (by simp), h.c4], fun o => by rw [World.frozen?_setCell]; exact h.fz o⟩
theorem Box5.set3 (h : Box5 W b v0 v1 v2 v3 v4) (u : Value) : Box5 (W.setCell ⟨b, 3, none⟩ u) b v0 v1 v2 u v4 :=
 ⟨by rw [World.cell?_setCell_other _ _ _ _ (by simp), h.c0], by rw [World.cell?_setCell_other _ _ _ _ (by simp), h.c1], by rw [World.cell?_setCell_other _ _ _ _ (by simp), h.c2], World.cell?_setCell_same _ _ _ h.c3, by rw [World.cell?_setCell_other _ _ _ _ (by simp), h.c4], fun o => by rw [World.frozen?_setCell]; exact h.fz o⟩
theorem Box5.set4 (h : Box5 W b v0 v1 v2 v3 v4) (u : Value) : Box5 (W.setCell ⟨b, 4, none⟩ u) b v0 v1 v2 v3 u :=
 ⟨by rw [World.cell?_setCell_other _ _ _ _ (by simp), h.c0], by rw [World.cell?_setCell_other _ _ _ _ (by simp), h.c1], by rw [World.cell?_setCell_other _ _ _ _ (by simp), h.c2], by rw [World.cell?_setCell_other _ _ _ _ (by simp), h.c3], World.cell?_setCell_same _ _ _ h.c4, fun o => by rw [World.frozen?_setCell]; exact h.fz o⟩
end
/-- The boxes of tendrilref11.Do. -/
structure RD (w : World) (c : CfgD) (g : GraphD) (vn ve : Value) (o : OpD) (z : GraphD) (r : ResD) (zn ze vp vo vi : Value) (W : World) : Prop where
 K : Below w.heap.size w W
 hl : w.heap.size + 7 ≤ W.heap.size
 cf : Box5 W w.heap.size (.int .i64 c.nodes) (.int .i64 c.edges) (.int .i64 c.props) (.int .i64 c.ids) (.int .i64 c.eids)
 bg : Box4 W (w.heap.size + 1) vn ve (.int .i64 g.nn) (.int .i64 g.ne)
 op : Box5 W (w.heap.size + 1 + 1) (.int .i64 o.k) (.int .i64 o.a) (.int .i64 o.b) (.int .i64 o.p) (.int .i64 o.v)
 b3 : Box4 W (w.heap.size + 1 + 1 + 1) (.slice none 0 0) (.slice none 0 0) (.int .i64 0) (.int .i64 0)
 b4 : Box5 W (w.heap.size + 1 + 1 + 1 + 1) (.int .i64 0) (.int .i64 0) (.slice none 0 0) (.slice none 0 0) (.slice none 0 0)
 bh : Box4 W (w.heap.size + 1 + 1 + 1 + 1 + 1) zn ze (.int .i64 z.nn) (.int .i64 z.ne)
 br : Box5 W (w.heap.size + 1 + 1 + 1 + 1 + 1 + 1) (.int .i64 r.st) (.int .i64 r.id) vp vo vi
 hg : Gr W (fun k => k < w.heap.size) g vn ve
 hz : Gr W (fun k => w.heap.size + 7 ≤ k ∨ k < w.heap.size) z zn ze
 hp : Row tP W (fun k => w.heap.size + 7 ≤ k) vp r.ps
 ho : Row tP W (fun k => w.heap.size + 7 ≤ k) vo r.os
 hi : Row tP W (fun k => w.heap.size + 7 ≤ k) vi r.is
section
variable {w : World} {c : CfgD} {g : GraphD} {vn ve : Value} {o : OpD} {z : GraphD} {r : ResD} {zn ze vp vo vi : Value} {W W' : World}
theorem RD.below (h : RD w c g vn ve o z r zn ze vp vo vi W) (hb : Below W.heap.size W W') : RD w c g vn ve o z r zn ze vp vo vi W' := by
 have h1 := h.hl
 exact ⟨h.K.trans (hb.mono h.K.size), Nat.le_trans h1 hb.size, h.cf.keep (hb.block _ (by omega)), h.bg.keep (hb.block _ (by omega)), h.op.keep (hb.block _ (by omega)), h.b3.keep (hb.block _ (by omega)), h.b4.keep (hb.block _ (by omega)), h.bh.keep (hb.block _ (by omega)), h.br.keep (hb.block _ (by omega)), h.hg.below hb, h.hz.below hb, h.hp.below hb, h.ho.below hb, h.hi.below hb⟩
theorem RD.setR0 (h : RD w c g vn ve o z r zn ze vp vo vi W) (x : Int) : RD w c g vn ve o z { r with st := x } zn ze vp vo vi (W.setCell ⟨w.heap.size + 1 + 1 + 1 + 1 + 1 + 1, 0, none⟩ (.int .i64 x)) := by
 have h1 := h.hl
 exact ⟨h.K.setCell (by simp only; omega) _, by rw [World.size_setCell]; exact h1, h.cf.other (by omega) _ _, h.bg.other (by omega) _ _, h.op.other (by omega) _ _, h.b3.other (by omega) _ _, h.b4.other (by omega) _ _, h.bh.other (by omega) _ _, h.br.set0 _, h.hg.move fun k hk _ => Below.heap_setCell W ⟨w.heap.size + 1 + 1 + 1 + 1 + 1 + 1, 0, none⟩ _ k (by simp only at hk ⊢; omega), h.hz.move fun k hk _ => Below.heap_setCell W ⟨w.heap.size + 1 + 1 + 1 + 1 + 1 + 1, 0, none⟩ _ k (by simp only at hk ⊢; omega), (h.hp.move fun k hk _ => Below.heap_setCell W ⟨w.heap.size + 1 + 1 + 1 + 1 + 1 + 1, 0, none⟩ _ k (by simp only at hk ⊢; omega)), (h.ho.move fun k hk _ => Below.heap_setCell W ⟨w.heap.size + 1 + 1 + 1 + 1 + 1 + 1, 0, none⟩ _ k (by simp only at hk ⊢; omega)), (h.hi.move fun k hk _ => Below.heap_setCell W ⟨w.heap.size + 1 + 1 + 1 + 1 + 1 + 1, 0, none⟩ _ k (by simp only at hk ⊢; omega))⟩
theorem RD.setR1 (h : RD w c g vn ve o z r zn ze vp vo vi W) (x : Int) : RD w c g vn ve o z { r with id := x } zn ze vp vo vi (W.setCell ⟨w.heap.size + 1 + 1 + 1 + 1 + 1 + 1, 1, none⟩ (.int .i64 x)) := by
 have h1 := h.hl
 exact ⟨h.K.setCell (by simp only; omega) _, by rw [World.size_setCell]; exact h1, h.cf.other (by omega) _ _, h.bg.other (by omega) _ _, h.op.other (by omega) _ _, h.b3.other (by omega) _ _, h.b4.other (by omega) _ _, h.bh.other (by omega) _ _, h.br.set1 _, h.hg.move fun k hk _ => Below.heap_setCell W ⟨w.heap.size + 1 + 1 + 1 + 1 + 1 + 1, 1, none⟩ _ k (by simp only at hk ⊢; omega), h.hz.move fun k hk _ => Below.heap_setCell W ⟨w.heap.size + 1 + 1 + 1 + 1 + 1 + 1, 1, none⟩ _ k (by simp only at hk ⊢; omega), (h.hp.move fun k hk _ => Below.heap_setCell W ⟨w.heap.size + 1 + 1 + 1 + 1 + 1 + 1, 1, none⟩ _ k (by simp only at hk ⊢; omega)), (h.ho.move fun k hk _ => Below.heap_setCell W ⟨w.heap.size + 1 + 1 + 1 + 1 + 1 + 1, 1, none⟩ _ k (by simp only at hk ⊢; omega)), (h.hi.move fun k hk _ => Below.heap_setCell W ⟨w.heap.size + 1 + 1 + 1 + 1 + 1 + 1, 1, none⟩ _ k (by simp only at hk ⊢; omega))⟩
theorem RD.setR2 (h : RD w c g vn ve o z r zn ze vp vo vi W) {v : Value} {xs : List P2} (hr : Row tP W (fun k => w.heap.size + 7 ≤ k) v xs) : RD w c g vn ve o z { r with ps := xs } zn ze v vo vi (W.setCell ⟨w.heap.size + 1 + 1 + 1 + 1 + 1 + 1, 2, none⟩ v) := by
 have h1 := h.hl
 exact ⟨h.K.setCell (by simp only; omega) _, by rw [World.size_setCell]; exact h1, h.cf.other (by omega) _ _, h.bg.other (by omega) _ _, h.op.other (by omega) _ _, h.b3.other (by omega) _ _, h.b4.other (by omega) _ _, h.bh.other (by omega) _ _, h.br.set2 _, h.hg.move fun k hk _ => Below.heap_setCell W ⟨w.heap.size + 1 + 1 + 1 + 1 + 1 + 1, 2, none⟩ _ k (by simp only at hk ⊢; omega), h.hz.move fun k hk _ => Below.heap_setCell W ⟨w.heap.size + 1 + 1 + 1 + 1 + 1 + 1, 2, none⟩ _ k (by simp only at hk ⊢; omega), (hr.move fun k hk _ => Below.heap_setCell W ⟨w.heap.size + 1 + 1 + 1 + 1 + 1 + 1, 2, none⟩ _ k (by simp only at hk ⊢; omega)), (h.ho.move fun k hk _ => Below.heap_setCell W ⟨w.heap.size + 1 + 1 + 1 + 1 + 1 + 1, 2, none⟩ _ k (by simp only at hk ⊢; omega)), (h.hi.move fun k hk _ => Below.heap_setCell W ⟨w.heap.size + 1 + 1 + 1 + 1 + 1 + 1, 2, none⟩ _ k (by simp only at hk ⊢; omega))⟩
theorem RD.setR3 (h : RD w c g vn ve o z r zn ze vp vo vi W) {v : Value} {xs : List P2} (hr : Row tP W (fun k => w.heap.size + 7 ≤ k) v xs) : RD w c g vn ve o z { r with os := xs } zn ze vp v vi (W.setCell ⟨w.heap.size + 1 + 1 + 1 + 1 + 1 + 1, 3, none⟩ v) := by
 have h1 := h.hl
 exact ⟨h.K.setCell (by simp only; omega) _, by rw [World.size_setCell]; exact h1, h.cf.other (by omega) _ _, h.bg.other (by omega) _ _, h.op.other (by omega) _ _, h.b3.other (by omega) _ _, h.b4.other (by omega) _ _, h.bh.other (by omega) _ _, h.br.set3 _, h.hg.move fun k hk _ => Below.heap_setCell W ⟨w.heap.size + 1 + 1 + 1 + 1 + 1 + 1, 3, none⟩ _ k (by simp only at hk ⊢; omega), h.hz.move fun k hk _ => Below.heap_setCell W ⟨w.heap.size + 1 + 1 + 1 + 1 + 1 + 1, 3, none⟩ _ k (by simp only at hk ⊢; omega), (h.hp.move fun k hk _ => Below.heap_setCell W ⟨w.heap.size + 1 + 1 + 1 + 1 + 1 + 1, 3, none⟩ _ k (by simp only at hk ⊢; omega)), (hr.move fun k hk _ => Below.heap_setCell W ⟨w.heap.size + 1 + 1 + 1 + 1 + 1 + 1, 3, none⟩ _ k (by simp only at hk ⊢; omega)), (h.hi.move fun k hk _ => Below.heap_setCell W ⟨w.heap.size + 1 + 1 + 1 + 1 + 1 + 1, 3, none⟩ _ k (by simp only at hk ⊢; omega))⟩
theorem RD.setR4 (h : RD w c g vn ve o z r zn ze vp vo vi W) {v : Value} {xs : List P2} (hr : Row tP W (fun k => w.heap.size + 7 ≤ k) v xs) : RD w c g vn ve o z { r with is := xs } zn ze vp vo v (W.setCell ⟨w.heap.size + 1 + 1 + 1 + 1 + 1 + 1, 4, none⟩ v) := by
 have h1 := h.hl
 exact ⟨h.K.setCell (by simp only; omega) _, by rw [World.size_setCell]; exact h1, h.cf.other (by omega) _ _, h.bg.other (by omega) _ _, h.op.other (by omega) _ _, h.b3.other (by omega) _ _, h.b4.other (by omega) _ _, h.bh.other (by omega) _ _, h.br.set4 _, h.hg.move fun k hk _ => Below.heap_setCell W ⟨w.heap.size + 1 + 1 + 1 + 1 + 1 + 1, 4, none⟩ _ k (by simp only at hk ⊢; omega), h.hz.move fun k hk _ => Below.heap_setCell W ⟨w.heap.size + 1 + 1 + 1 + 1 + 1 + 1, 4, none⟩ _ k (by simp only at hk ⊢; omega), (h.hp.move fun k hk _ => Below.heap_setCell W ⟨w.heap.size + 1 + 1 + 1 + 1 + 1 + 1, 4, none⟩ _ k (by simp only at hk ⊢; omega)), (h.ho.move fun k hk _ => Below.heap_setCell W ⟨w.heap.size + 1 + 1 + 1 + 1 + 1 + 1, 4, none⟩ _ k (by simp only at hk ⊢; omega)), (hr.move fun k hk _ => Below.heap_setCell W ⟨w.heap.size + 1 + 1 + 1 + 1 + 1 + 1, 4, none⟩ _ k (by simp only at hk ⊢; omega))⟩
theorem RD.setH (h : RD w c g vn ve o z r zn ze vp vo vi W) {y : GraphD} {yn ye : Value} (hy : Gr W (fun k => w.heap.size + 7 ≤ k ∨ k < w.heap.size) y yn ye) : RD w c g vn ve o y r yn ye vp vo vi ((((W.setCell ⟨w.heap.size + 1 + 1 + 1 + 1 + 1, 0, none⟩ yn).setCell ⟨w.heap.size + 1 + 1 + 1 + 1 + 1, 1, none⟩ ye).setCell ⟨w.heap.size + 1 + 1 + 1 + 1 + 1, 2, none⟩ (.int .i64 y.nn)).setCell ⟨w.heap.size + 1 + 1 + 1 + 1 + 1, 3, none⟩ (.int .i64 y.ne)) := by
 have h1 := h.hl
 have hs : ∀ k, k ≠ w.heap.size + 1 + 1 + 1 + 1 + 1 → (set4 W (w.heap.size + 1 + 1 + 1 + 1 + 1) yn ye (.int .i64 y.nn) (.int .i64 y.ne)).heap[k]? = W.heap[k]? := fun k hk => set4_heap _ _ _ _ _ _ k hk
 show RD w c g vn ve o y r yn ye vp vo vi (set4 W (w.heap.size + 1 + 1 + 1 + 1 + 1) yn ye (.int .i64 y.nn) (.int .i64 y.ne))
 exact ⟨set4_below h.K (by omega) _ _ _ _, by rw [set4_size]; exact h1, h.cf.keep (hs _ (by omega)), h.bg.keep (hs _ (by omega)), h.op.keep (hs _ (by omega)), h.b3.keep (hs _ (by omega)), h.b4.keep (hs _ (by omega)), h.bh.set _ _ _ _, h.br.keep (hs _ (by omega)), h.hg.move fun k hk _ => hs k (by simp only at hk ⊢; omega), hy.move fun k hk _ => hs k (by simp only at hk ⊢; omega), h.hp.move fun k hk _ => hs k (by simp only at hk ⊢; omega), h.ho.move fun k hk _ => hs k (by simp only at hk ⊢; omega), h.hi.move fun k hk _ => hs k (by simp only at hk ⊢; omega)⟩
end
theorem rd_made (w : World) (S : Nat → Prop) (c : CfgD) (g : GraphD) (vn ve : Value) (o : OpD) (hg : Gr w S g vn ve) (W : World) (hw : W = ((((((w.alloc (.cells #[.int .i64 c.nodes, .int .i64 c.edges, .int .i64 c.props, .int .i64 c.ids, .int .i64 c.eids] 23)).alloc (.cells #[vn, ve, .int .i64 g.nn, .int .i64 g.ne] 31)).alloc (.cells #[.int .i64 o.k, .int .i64 o.a, .int .i64 o.b, .int .i64 o.p, .int .i64 o.v] 46)).alloc (.cells #[.slice none 0 0, .slice none 0 0, .int .i64 0, .int .i64 0] 31)).alloc (.cells #[.int .i64 0, .int .i64 0, .slice none 0 0, .slice none 0 0, .slice none 0 0] 50)).alloc (.cells #[vn, ve, .int .i64 g.nn, .int .i64 g.ne] 31)).alloc (.cells #[.int .i64 1, .int .i64 0, .slice none 0 0, .slice none 0 0, .slice none 0 0] 50)) : RD w c g vn ve o g ⟨1, 0, [], [], []⟩ vn ve (.slice none 0 0) (.slice none 0 0) (.slice none 0 0) W := by
 obtain ⟨h1, h2, h3, h4, h5⟩ := heap5 w (.cells #[.int .i64 c.nodes, .int .i64 c.edges, .int .i64 c.props, .int .i64 c.ids, .int .i64 c.eids] 23) (.cells #[vn, ve, .int .i64 g.nn, .int .i64 g.ne] 31) (.cells #[.int .i64 o.k, .int .i64 o.a, .int .i64 o.b, .int .i64 o.p, .int .i64 o.v] 46) (.cells #[.slice none 0 0, .slice none 0 0, .int .i64 0, .int .i64 0] 31) (.cells #[.int .i64 0, .int .i64 0, .slice none 0 0, .slice none 0 0, .slice none 0 0] 50)
 generalize hV : ((((w.alloc (.cells #[.int .i64 c.nodes, .int .i64 c.edges, .int .i64 c.props, .int .i64 c.ids, .int .i64 c.eids] 23)).alloc (.cells #[vn, ve, .int .i64 g.nn, .int .i64 g.ne] 31)).alloc (.cells #[.int .i64 o.k, .int .i64 o.a, .int .i64 o.b, .int .i64 o.p, .int .i64 o.v] 46)).alloc (.cells #[.slice none 0 0, .slice none 0 0, .int .i64 0, .int .i64 0] 31)).alloc (.cells #[.int .i64 0, .int .i64 0, .slice none 0 0, .slice none 0 0, .slice none 0 0] 50) = V at hw h1 h2 h3 h4 h5
 have sV : V.heap.size = w.heap.size + 5 := by rw [← hV]; simp
 have kV : Below w.heap.size w V := by rw [← hV]; exact (by repeat (first | (with_reducible exact Below.refl _ _) | (with_reducible exact Below.refl _ _) | (with_reducible refine Below.drew ?_) | (with_reducible refine Below.alloc ?_ (by simp; try omega) _) | (with_reducible refine Below.setCell ?_ (by simp; try omega) _)))
 have kW : Below V.heap.size V W := by rw [hw]; exact (by repeat (first | (with_reducible exact Below.refl _ _) | (with_reducible exact Below.refl _ _) | (with_reducible refine Below.drew ?_) | (with_reducible refine Below.alloc ?_ (by simp; try omega) _) | (with_reducible refine Below.setCell ?_ (by simp; try omega) _)))
 have sW : W.heap.size = w.heap.size + 7 := by rw [hw]; simp; omega
 have hb : Below w.heap.size w W := kV.trans (kW.mono kV.size)
 have h6 : W.heap[w.heap.size + 5]? = some (.cells #[vn, ve, .int .i64 g.nn, .int .i64 g.ne] 31 (0, 0)) := by
  rw [hw, ← sV]
  exact (Below.heap_alloc _ _ _ (by simp)).trans (heap_alloc_new V _)
 have h7 : W.heap[w.heap.size + 6]? = some (.cells #[.int .i64 1, .int .i64 0, .slice none 0 0, .slice none 0 0, .slice none 0 0] 50 (0, 0)) := by
  rw [hw, show w.heap.size + 6 = (V.alloc (.cells #[vn, ve, .int .i64 g.nn, .int .i64 g.ne] 31)).heap.size by simp; omega]
  exact heap_alloc_new _ _
 have hgl : Gr w (fun k => k < w.heap.size) g vn ve := hg.bound.mono (S' := fun k => k < w.heap.size) fun k hk _ => hk.2
 have hk : ∀ k, k < V.heap.size → W.heap[k]? = V.heap[k]? := fun k hk => kW.block k hk
 exact ⟨hb, by omega, Box5.of ((hk _ (by omega)).trans h1), Box4.of ((hk _ (by omega)).trans h2), Box5.of ((hk _ (by omega)).trans h3), Box4.of ((hk _ (by omega)).trans h4), Box5.of ((hk _ (by omega)).trans h5), Box4.of h6, Box5.of h7, hgl.below hb, (hgl.mono fun k hk _ => .inr hk).below hb, Row.nil _ _ _, Row.nil _ _ _, Row.nil _ _ _⟩
set_option maxRecDepth 100000 in
set_option maxHeartbeats 16000000 in
theorem refDo_calls (w : World) (S : Nat → Prop) (c : CfgD) (g : GraphD) (vn ve : Value) (o : OpD) (h : Gr w S g vn ve) (hs : Rdy c g) : Calls Tryz.prog 42 #[c.val, .agg #[vn, ve, .int .i64 g.nn, .int .i64 g.ne], o.val] w (DoPost w (doOf c g o)) := by
 obtain ⟨⟨A1, c1, rfl⟩, ⟨A2, c2, rfl⟩⟩ := h.slices
 obtain ⟨W0, hW⟩ : ∃ W0, W0 = ((((((w.alloc (.cells #[.int .i64 c.nodes, .int .i64 c.edges, .int .i64 c.props, .int .i64 c.ids, .int .i64 c.eids] 23)).alloc (.cells #[.slice A1 g.nodes.length c1, .slice A2 g.edges.length c2, .int .i64 g.nn, .int .i64 g.ne] 31)).alloc (.cells #[.int .i64 o.k, .int .i64 o.a, .int .i64 o.b, .int .i64 o.p, .int .i64 o.v] 46)).alloc (.cells #[.slice none 0 0, .slice none 0 0, .int .i64 0, .int .i64 0] 31)).alloc (.cells #[.int .i64 0, .int .i64 0, .slice none 0 0, .slice none 0 0, .slice none 0 0] 50)).alloc (.cells #[.slice A1 g.nodes.length c1, .slice A2 g.edges.length c2, .int .i64 g.nn, .int .i64 g.ne] 31)).alloc (.cells #[.int .i64 1, .int .i64 0, .slice none 0 0, .slice none 0 0, .slice none 0 0] 50) := ⟨_, rfl⟩
 have R0 := Lib.hid (rd_made w S c g _ _ o h W0 hW)
 have HS := Lib.hid hs
 clear h hs
 obtain ⟨k, a, b, p, v⟩ := o
 unfold OpD.val CfgD.val
 simp only at hW
 generalize hkv : Value.int .i64 k = kv at hW ⊢
 go_enter Tryz.func42, Tryz.ntmps42
 go_wp2_with fail
 rw [← hW]
 clear hW
 rename_i Kr ar Ki ai Kj aj
 have CUT0 : ∀ (u0 u1 u2 u3 u5 u10 u11 u12 u13 u14 u15 u16 u17 u18 u19 u20 u21 u22 u23 u24 u25 u26 u27 u28 u29 u30 u31 u32 u33 u34 u35 u36 u37 u38 u39 u40 u41 u42 u43 u44 u45 u46 u47 u48 u49 u50 u51 u52 u53 u54 u55 u56 u57 u58 u59 u60 u61 u62 u63 u64 u65 u66 u67 u68 u69 u70 u71 u72 u73 u74 u75 u76 u77 u78 u79 u80 u81 u82 u83 u84 u85 u86 u87 u88 u89 u90 u91 u92 u93 u94 u95 u96 u97 u98 u99 u100 u101 u102 u103 u104 u105 u106 u107 u108 u109 u110 u111 u112 u113 u114 u115 u116 u117 u118 u119 u120 u121 u122 u123 u124 u125 u126 u127 u128 : Value) (z : GraphD) (r : ResD) (zn ze vp vo vi : Value) (W : World), RD w c g (.slice A1 g.nodes.length c1) (.slice A2 g.edges.length c2) ⟨k, a, b, p, v⟩ z r zn ze vp vo vi W → (r.st = 0 → z.small) → doOf c g ⟨k, a, b, p, v⟩ = (if r.st = 0 then z else g, r) → Kr {tmps := #[u0, u1, u2, u3, .pointer (some ⟨w.heap.size + 1, 0, none⟩), u5, .pointer (some ⟨w.heap.size + 1 + 1 + 1, 0, none⟩), .pointer (some ⟨w.heap.size + 1 + 1 + 1 + 1, 0, none⟩), .pointer (some ⟨w.heap.size + 1 + 1 + 1 + 1 + 1, 0, none⟩), .pointer (some ⟨w.heap.size + 1 + 1 + 1 + 1 + 1 + 1, 0, none⟩), u10, u11, u12, u13, u14, u15, u16, u17, u18, u19, u20, u21, u22, u23, u24, u25, u26, u27, u28, u29, u30, u31, u32, u33, u34, u35, u36, u37, u38, u39, u40, u41, u42, u43, u44, u45, u46, u47, u48, u49, u50, u51, u52, u53, u54, u55, u56, u57, u58, u59, u60, u61, u62, u63, u64, u65, u66, u67, u68, u69, u70, u71, u72, u73, u74, u75, u76, u77, u78, u79, u80, u81, u82, u83, u84, u85, u86, u87, u88, u89, u90, u91, u92, u93, u94, u95, u96, u97, u98, u99, u100, u101, u102, u103, u104, u105, u106, u107, u108, u109, u110, u111, u112, u113, u114, u115, u116, u117, u118, u119, u120, u121, u122, u123, u124, u125, u126, u127, u128], defers := []} W := by
  intro u0 u1 u2 u3 u5 u10 u11 u12 u13 u14 u15 u16 u17 u18 u19 u20 u21 u22 u23 u24 u25 u26 u27 u28 u29 u30 u31 u32 u33 u34 u35 u36 u37 u38 u39 u40 u41 u42 u43 u44 u45 u46 u47 u48 u49 u50 u51 u52 u53 u54 u55 u56 u57 u58 u59 u60 u61 u62 u63 u64 u65 u66 u67 u68 u69 u70 u71 u72 u73 u74 u75 u76 u77 u78 u79 u80 u81 u82 u83 u84 u85 u86 u87 u88 u89 u90 u91 u92 u93 u94 u95 u96 u97 u98 u99 u100 u101 u102 u103 u104 u105 u106 u107 u108 u109 u110 u111 u112 u113 u114 u115 u116 u117 u118 u119 u120 u121 u122 u123 u124 u125 u126 u127 u128 z r zn ze vp vo vi W hR hzs hdo
  refine ar _ _ ?_
  obtain ⟨st, id, ps, os, is⟩ := r
  obtain ⟨⟨A3, L3, c3, rfl⟩, A4, L4, c4, rfl⟩ := hR.hz.sl3
  obtain ⟨B1, d1, rfl⟩ := hR.hp.slice
  obtain ⟨B2, d2, rfl⟩ := hR.ho.slice
  obtain ⟨B3, d3, rfl⟩ := hR.hi.slice
  have R := Lib.hid hR
  clear aj Kj ai Ki ar Kr hR R0 hkv kv
  by_cases h0 : st = 0
  ·
   subst h0
   replace hzs := hzs rfl
   have HD := Lib.hid (show doOf c g ⟨k, a, b, p, v⟩ = (z, ⟨0, id, ps, os, is⟩) by rw [hdo]; rfl)
   clear hdo
   obtain ⟨r0, r1, r2, r3, r4, rf⟩ := R.out.br
   go_wp2_with fail
   clear r0 r1 r2 r3 r4 rf
   have t0 := R.out.hl
   have t1 : w.heap.size + 1 + 1 + 1 + 1 + 1 < W.heap.size := by omega
   have t2 : w.heap.size + 1 + 1 + 1 + 1 + 1 + 1 < W.heap.size := by omega
   obtain ⟨y0, y1, y2, y3, yf⟩ := R.out.bh
   obtain ⟨r0, r1, r2, r3, r4, rf⟩ := R.out.br
   have n1 : ¬ w.heap.size + 1 + 1 + 1 + 1 + 1 = w.heap.size + 1 + 1 + 1 := by omega
   have n2 : ¬ w.heap.size + 1 + 1 + 1 + 1 + 1 = w.heap.size + 1 + 1 + 1 + 1 := by omega
   have n3 : ¬ w.heap.size + 1 + 1 + 1 + 1 + 1 + 1 = w.heap.size + 1 + 1 + 1 := by omega
   have n4 : ¬ w.heap.size + 1 + 1 + 1 + 1 + 1 + 1 = w.heap.size + 1 + 1 + 1 + 1 := by omega
   have n5 : ¬ w.heap.size + 1 + 1 = w.heap.size := by omega
   have n6 : ¬ w.heap.size + 1 + 1 + 1 = w.heap.size := by omega
   have n7 : ¬ w.heap.size + 1 = w.heap.size := by omega
   refine wp_region_schedK (fun k => k ≠ w.heap.size + 1 + 1 + 1 ∧ k ≠ w.heap.size + 1 + 1 + 1 + 1) [(0, true), (2, true), (1, false), (3, false), (4, false)] (by kernel_rfl) (by kernel_rfl) (fun hS => ?_)
   have HK := Lib.hid hS
   clear hS
   replace R := Lib.hid (R.out.below (Below.refl W.heap.size W).drew)
   revert HK R
   generalize W.drew = Wd
   intro HK R
   repeat (refine sched_take (v := ?_) (by simp only [opT, opS, opZ]; rfl) (Or.inl ⟨by rfl, fun W hW => ?_⟩) HK.out ?_; rotate_left; (have hc := fun b o hn hm hb => hW.cell b o ⟨hn, hm⟩ hb; clear hW; go_simp; with_reducible rfl); simp only [Act.put, putT, putZ, putS])
   refine sched_step (by simp only [opT, opS, opZ]; rfl) ?_
   go_wp2_with fail
   refine (copy_calls Wd _ z _ _ R.out.hz hzs).mono ?_
   rintro e W4 ⟨zn, ze, rfl, hgz, hb⟩
   obtain ⟨⟨A5, L5, c5, rfl⟩, A6, L6, c6, rfl⟩ := hgz.sl3
   have HZ := Lib.hid hgz
   have HK4 := Lib.hid (HK.out.below hb)
   have s4 := R.out.hl
   have R4 := Lib.hid (R.out.below hb)
   clear hb hgz y0 y1 y2 y3 yf
   go_wp2_with fail
   refine sched_on HK4.out ?_
   repeat (refine sched_take (v := ?_) (by simp only [opT, opS, opZ]; rfl) (Or.inl ⟨by rfl, fun W hW => ?_⟩) HK4.out ?_; rotate_left; (have hc := fun b o hn hm hb => hW.cell b o ⟨hn, hm⟩ hb; clear hW; go_simp; with_reducible rfl); simp only [Act.put, putT, putZ, putS])
   clear r0 r1 r2 r3 r4 rf
   obtain ⟨y0, y1, y2, y3, yf⟩ := R4.out.b3
   obtain ⟨r0, r1, r2, r3, r4, rf⟩ := R4.out.b4
   refine sched_step (by simp only [opT, opS, opZ]; rfl) ?_
   go_wp2_with fail
   refine sched_on (by repeat (first | (with_reducible exact HK4.out) | with_reducible refine Kept.setCell ?_ (.inr (by simp)) _)) ?_
   refine sched_step (by simp only [opT, opS, opZ]; rfl) ?_
   go_wp2_with fail
   refine sched_on (by repeat (first | (with_reducible exact HK4.out) | with_reducible refine Kept.setCell ?_ (.inr (by simp)) _)) ?_
   refine sched_done ?_
   clear HK HK4
   go_wp2
   refine bodyPost_ret (v := .tuple #[.agg #[.slice A5 L5 c5, .slice A6 L6 c6, .int .i64 z.nn, .int .i64 z.ne], .agg #[.int .i64 0, .int .i64 id, .slice B1 ps.length d1, .slice B2 os.length d2, .slice B3 is.length d3]]) (by simp [results, Tryz.results42, go_sem, y0, y1, y2, y3, r0, r1, r2, r3, r4]; try rfl) rfl ?_
   rw [HD.out]
   have fin : ∀ k, w.heap.size + 7 ≤ k → k ≠ w.heap.size + 1 + 1 + 1 ∧ k ≠ w.heap.size + 1 + 1 + 1 + 1 := fun k hk => ⟨by omega, by omega⟩
   refine ⟨_, _, _, rfl, Gr.mono (S := fun k => Wd.heap.size ≤ k) (HZ.out.move (w' := _) ?_) (fun k hk _ => ?_), ⟨_, _, _, rfl, (R4.out.hp.move (w' := _) ?_).mono (fun k hk _ => ?_), (R4.out.ho.move (w' := _) ?_).mono (fun k hk _ => ?_), (R4.out.hi.move (w' := _) ?_).mono (fun k hk _ => ?_)⟩, ?_⟩
   ·
    intro k hk hl
    obtain ⟨n1, n2⟩ := fin k (by first | exact hk | exact Nat.le_trans s4 hk)
    repeat (first | rw [Below.heap_setCell _ _ _ k n1] | rw [Below.heap_setCell _ _ _ k n2])
   ·
    show _ ≤ k
    omega
   ·
    intro k hk hl
    obtain ⟨n1, n2⟩ := fin k (by first | exact hk | exact Nat.le_trans s4 hk)
    repeat (first | rw [Below.heap_setCell _ _ _ k n1] | rw [Below.heap_setCell _ _ _ k n2])
   ·
    show _ ≤ k
    omega
   ·
    intro k hk hl
    obtain ⟨n1, n2⟩ := fin k (by first | exact hk | exact Nat.le_trans s4 hk)
    repeat (first | rw [Below.heap_setCell _ _ _ k n1] | rw [Below.heap_setCell _ _ _ k n2])
   ·
    show _ ≤ k
    omega
   ·
    intro k hk hl
    obtain ⟨n1, n2⟩ := fin k (by first | exact hk | exact Nat.le_trans s4 hk)
    repeat (first | rw [Below.heap_setCell _ _ _ k n1] | rw [Below.heap_setCell _ _ _ k n2])
   ·
    show _ ≤ k
    omega
   ·
    have := R4.out.K
    repeat (first | with_reducible exact this | with_reducible refine Below.setCell ?_ (by simp <;> omega) _)
  ·
   have HD := Lib.hid (show doOf c g ⟨k, a, b, p, v⟩ = (g, ⟨st, id, ps, os, is⟩) by rw [hdo]; exact congrArg (fun q => (q, _)) (if_neg h0))
   clear hdo hzs
   obtain ⟨r0, r1, r2, r3, r4, rf⟩ := R.out.br
   obtain ⟨x0, x1, x2, x3, xf⟩ := R.out.bg
   obtain ⟨y0, y1, y2, y3, yf⟩ := R.out.bh
   go_wp2_with fail
   clear r0 r1 r2 r3 r4 rf x0 x1 x2 x3 xf y0 y1 y2 y3 yf
   replace R := Lib.hid (R.out.setH (R.out.hg.mono fun k hk _ => .inr hk))
   revert R
   generalize (((W.setCell ⟨w.heap.size + 1 + 1 + 1 + 1 + 1, 0, none⟩ (.slice A1 g.nodes.length c1)).setCell ⟨w.heap.size + 1 + 1 + 1 + 1 + 1, 1, none⟩ (.slice A2 g.edges.length c2)).setCell ⟨w.heap.size + 1 + 1 + 1 + 1 + 1, 2, none⟩ (.int .i64 g.nn)).setCell ⟨w.heap.size + 1 + 1 + 1 + 1 + 1, 3, none⟩ (.int .i64 g.ne) = W
   intro R
   have t0 := R.out.hl
   have t1 : w.heap.size + 1 + 1 + 1 + 1 + 1 < W.heap.size := by omega
   have t2 : w.heap.size + 1 + 1 + 1 + 1 + 1 + 1 < W.heap.size := by omega
   obtain ⟨y0, y1, y2, y3, yf⟩ := R.out.bh
   obtain ⟨r0, r1, r2, r3, r4, rf⟩ := R.out.br
   have n1 : ¬ w.heap.size + 1 + 1 + 1 + 1 + 1 = w.heap.size + 1 + 1 + 1 := by omega
   have n2 : ¬ w.heap.size + 1 + 1 + 1 + 1 + 1 = w.heap.size + 1 + 1 + 1 + 1 := by omega
   have n3 : ¬ w.heap.size + 1 + 1 + 1 + 1 + 1 + 1 = w.heap.size + 1 + 1 + 1 := by omega
   have n4 : ¬ w.heap.size + 1 + 1 + 1 + 1 + 1 + 1 = w.heap.size + 1 + 1 + 1 + 1 := by omega
   have n5 : ¬ w.heap.size + 1 + 1 = w.heap.size := by omega
   have n6 : ¬ w.heap.size + 1 + 1 + 1 = w.heap.size := by omega
   have n7 : ¬ w.heap.size + 1 = w.heap.size := by omega
   refine wp_region_schedK (fun k => k ≠ w.heap.size + 1 + 1 + 1 ∧ k ≠ w.heap.size + 1 + 1 + 1 + 1) [(0, true), (2, true), (1, false), (3, false), (4, false)] (by kernel_rfl) (by kernel_rfl) (fun hS => ?_)
   have HK := Lib.hid hS
   clear hS
   replace R := Lib.hid (R.out.below (Below.refl W.heap.size W).drew)
   revert HK R
   generalize W.drew = Wd
   intro HK R
   repeat (refine sched_take (v := ?_) (by simp only [opT, opS, opZ]; rfl) (Or.inl ⟨by rfl, fun W hW => ?_⟩) HK.out ?_; rotate_left; (have hc := fun b o hn hm hb => hW.cell b o ⟨hn, hm⟩ hb; clear hW; go_simp; with_reducible rfl); simp only [Act.put, putT, putZ, putS])
   refine sched_step (by simp only [opT, opS, opZ]; rfl) ?_
   go_wp2_with fail
   refine (copy_calls Wd _ g _ _ R.out.hz HS.out.small).mono ?_
   rintro e W4 ⟨zn, ze, rfl, hgz, hb⟩
   obtain ⟨⟨A5, L5, c5, rfl⟩, A6, L6, c6, rfl⟩ := hgz.sl3
   have HZ := Lib.hid hgz
   have HK4 := Lib.hid (HK.out.below hb)
   have s4 := R.out.hl
   have R4 := Lib.hid (R.out.below hb)
   clear hb hgz y0 y1 y2 y3 yf
   go_wp2_with fail
   refine sched_on HK4.out ?_
   repeat (refine sched_take (v := ?_) (by simp only [opT, opS, opZ]; rfl) (Or.inl ⟨by rfl, fun W hW => ?_⟩) HK4.out ?_; rotate_left; (have hc := fun b o hn hm hb => hW.cell b o ⟨hn, hm⟩ hb; clear hW; go_simp; with_reducible rfl); simp only [Act.put, putT, putZ, putS])
   clear r0 r1 r2 r3 r4 rf
   obtain ⟨y0, y1, y2, y3, yf⟩ := R4.out.b3
   obtain ⟨r0, r1, r2, r3, r4, rf⟩ := R4.out.b4
   refine sched_step (by simp only [opT, opS, opZ]; rfl) ?_
   go_wp2_with fail
   refine sched_on (by repeat (first | (with_reducible exact HK4.out) | with_reducible refine Kept.setCell ?_ (.inr (by simp)) _)) ?_
   refine sched_step (by simp only [opT, opS, opZ]; rfl) ?_
   go_wp2_with fail
   refine sched_on (by repeat (first | (with_reducible exact HK4.out) | with_reducible refine Kept.setCell ?_ (.inr (by simp)) _)) ?_
   refine sched_done ?_
   clear HK HK4
   go_wp2
   refine bodyPost_ret (v := .tuple #[.agg #[.slice A5 L5 c5, .slice A6 L6 c6, .int .i64 g.nn, .int .i64 g.ne], .agg #[.int .i64 st, .int .i64 id, .slice B1 ps.length d1, .slice B2 os.length d2, .slice B3 is.length d3]]) (by simp [results, Tryz.results42, go_sem, y0, y1, y2, y3, r0, r1, r2, r3, r4]; try rfl) rfl ?_
   rw [HD.out]
   have fin : ∀ k, w.heap.size + 7 ≤ k → k ≠ w.heap.size + 1 + 1 + 1 ∧ k ≠ w.heap.size + 1 + 1 + 1 + 1 := fun k hk => ⟨by omega, by omega⟩
   refine ⟨_, _, _, rfl, Gr.mono (S := fun k => Wd.heap.size ≤ k) (HZ.out.move (w' := _) ?_) (fun k hk _ => ?_), ⟨_, _, _, rfl, (R4.out.hp.move (w' := _) ?_).mono (fun k hk _ => ?_), (R4.out.ho.move (w' := _) ?_).mono (fun k hk _ => ?_), (R4.out.hi.move (w' := _) ?_).mono (fun k hk _ => ?_)⟩, ?_⟩
   ·
    intro k hk hl
    obtain ⟨n1, n2⟩ := fin k (by first | exact hk | exact Nat.le_trans s4 hk)
    repeat (first | rw [Below.heap_setCell _ _ _ k n1] | rw [Below.heap_setCell _ _ _ k n2])
   ·
    show _ ≤ k
    omega
   ·
    intro k hk hl
    obtain ⟨n1, n2⟩ := fin k (by first | exact hk | exact Nat.le_trans s4 hk)
    repeat (first | rw [Below.heap_setCell _ _ _ k n1] | rw [Below.heap_setCell _ _ _ k n2])
   ·
    show _ ≤ k
    omega
   ·
    intro k hk hl
    obtain ⟨n1, n2⟩ := fin k (by first | exact hk | exact Nat.le_trans s4 hk)
    repeat (first | rw [Below.heap_setCell _ _ _ k n1] | rw [Below.heap_setCell _ _ _ k n2])
   ·
    show _ ≤ k
    omega
   ·
    intro k hk hl
    obtain ⟨n1, n2⟩ := fin k (by first | exact hk | exact Nat.le_trans s4 hk)
    repeat (first | rw [Below.heap_setCell _ _ _ k n1] | rw [Below.heap_setCell _ _ _ k n2])
   ·
    show _ ≤ k
    omega
   ·
    have := R4.out.K
    repeat (first | with_reducible exact this | with_reducible refine Below.setCell ?_ (by simp <;> omega) _)
 have CUT := Lib.hid CUT0
 clear ar CUT0
 subst hkv
 by_cases h1 : k = 1
 case pos =>
  subst h1
  obtain ⟨x0, x1, x2, x3, xf⟩ := R0.out.bg
  obtain ⟨o0, o1, o2, o3, o4, of⟩ := R0.out.op
  obtain ⟨d0, d1, d2, d3, d4, df⟩ := R0.out.cf
  have HD := Lib.hid (show doOf c g ⟨1, a, b, p, v⟩ = (if (addOf c g).2.2 = 0 then (addOf c g).1 else g, ⟨(addOf c g).2.2, (addOf c g).2.1, [], [], []⟩) from rfl)
  go_simp
  go_wp2_with fail
  refine (refAdd_calls W0 _ c g _ _ R0.out.hg HS.out.small HS.out.ids HS.out.nn HS.out.ln).mono ?_
  have HM := Lib.hid (chg_small (o := ⟨1, a, b, p, v⟩) HS.out rfl : (addOf c g).2.2 = 0 → (addOf c g).1.small)
  revert HD HM
  generalize addOf c g = q
  intro HD HM
  obtain ⟨z, id, st⟩ := q
  rintro e w1 ⟨zn, ze, rfl, hgz, hb⟩
  replace hgz : Gr w1 (fun k => W0.heap.size ≤ k) z zn ze := hgz
  obtain ⟨⟨A3, L3, c3, rfl⟩, A4, L4, c4, rfl⟩ := hgz.sl3
  have HZ := Lib.hid (hgz.mono (S' := fun k => w.heap.size + 7 ≤ k ∨ k < w.heap.size) fun k hk _ => .inl (Nat.le_trans R0.out.hl hk))
  clear hgz
  have R1 := Lib.hid (R0.out.below hb)
  have s1 := R1.out.hl
  clear hb R0 x0 x1 x2 x3 xf o0 o1 o2 o3 o4 of d0 d1 d2 d3 d4 df
  obtain ⟨y0, y1, y2, y3, yf⟩ := R1.out.bh
  obtain ⟨r0, r1, r2, r3, r4, rf⟩ := R1.out.br
  simp only
  go_wp2_with fail
  refine CUT.out _ _ _ _ _ _ _ _ _ _ _ _ _ _ _ _ _ _ _ _ _ _ _ _ _ _ _ _ _ _ _ _ _ _ _ _ _ _ _ _ _ _ _ _ _ _ _ _ _ _ _ _ _ _ _ _ _ _ _ _ _ _ _ _ _ _ _ _ _ _ _ _ _ _ _ _ _ _ _ _ _ _ _ _ _ _ _ _ _ _ _ _ _ _ _ _ _ _ _ _ _ _ _ _ _ _ _ _ _ _ _ _ _ _ _ _ _ _ _ _ _ _ _ _ _ _ _ _ _ _ _ _ (((R1.out.setH HZ.out).setR1 id).setR0 st) ?_ ?_
  ·
   exact HM.out
  ·
   exact HD.out
 by_cases h2 : k = 2
 case pos =>
  subst h2
  obtain ⟨x0, x1, x2, x3, xf⟩ := R0.out.bg
  obtain ⟨o0, o1, o2, o3, o4, of⟩ := R0.out.op
  obtain ⟨d0, d1, d2, d3, d4, df⟩ := R0.out.cf
  have HD := Lib.hid (show doOf c g ⟨2, a, b, p, v⟩ = (if (linkOf c g a b).2.2 = 0 then (linkOf c g a b).1 else g, ⟨(linkOf c g a b).2.2, (linkOf c g a b).2.1, [], [], []⟩) from rfl)
  go_simp
  go_wp2_with fail
  refine (refLink_calls W0 _ c g _ _ a b R0.out.hg HS.out.small HS.out.eids HS.out.ne HS.out.le).mono ?_
  have HM := Lib.hid (chg_small (o := ⟨2, a, b, p, v⟩) HS.out rfl : (linkOf c g a b).2.2 = 0 → (linkOf c g a b).1.small)
  revert HD HM
  generalize linkOf c g a b = q
  intro HD HM
  obtain ⟨z, id, st⟩ := q
  rintro e w1 ⟨zn, ze, rfl, hgz, hb⟩
  replace hgz : Gr w1 (fun k => W0.heap.size ≤ k) z zn ze := hgz
  obtain ⟨⟨A3, L3, c3, rfl⟩, A4, L4, c4, rfl⟩ := hgz.sl3
  have HZ := Lib.hid (hgz.mono (S' := fun k => w.heap.size + 7 ≤ k ∨ k < w.heap.size) fun k hk _ => .inl (Nat.le_trans R0.out.hl hk))
  clear hgz
  have R1 := Lib.hid (R0.out.below hb)
  have s1 := R1.out.hl
  clear hb R0 x0 x1 x2 x3 xf o0 o1 o2 o3 o4 of d0 d1 d2 d3 d4 df
  obtain ⟨y0, y1, y2, y3, yf⟩ := R1.out.bh
  obtain ⟨r0, r1, r2, r3, r4, rf⟩ := R1.out.br
  simp only
  go_wp2_with fail
  refine CUT.out _ _ _ _ _ _ _ _ _ _ _ _ _ _ _ _ _ _ _ _ _ _ _ _ _ _ _ _ _ _ _ _ _ _ _ _ _ _ _ _ _ _ _ _ _ _ _ _ _ _ _ _ _ _ _ _ _ _ _ _ _ _ _ _ _ _ _ _ _ _ _ _ _ _ _ _ _ _ _ _ _ _ _ _ _ _ _ _ _ _ _ _ _ _ _ _ _ _ _ _ _ _ _ _ _ _ _ _ _ _ _ _ _ _ _ _ _ _ _ _ _ _ _ _ _ _ _ _ _ _ _ _ (((R1.out.setH HZ.out).setR1 id).setR0 st) ?_ ?_
  ·
   exact HM.out
  ·
   exact HD.out
 by_cases h3 : k = 3
 case pos =>
  subst h3
  obtain ⟨x0, x1, x2, x3, xf⟩ := R0.out.bg
  obtain ⟨o0, o1, o2, o3, o4, of⟩ := R0.out.op
  have HD := Lib.hid (show doOf c g ⟨3, a, b, p, v⟩ = (if (cutOf g a).2 = 0 then (cutOf g a).1 else g, ⟨(cutOf g a).2, 0, [], [], []⟩) from rfl)
  go_simp
  go_wp2_with fail
  refine (refCut_calls W0 _ g _ _ a R0.out.hg HS.out.small).mono ?_
  have HM := Lib.hid (chg_small (o := ⟨3, a, b, p, v⟩) HS.out rfl : (cutOf g a).2 = 0 → (cutOf g a).1.small)
  revert HD HM
  generalize cutOf g a = q
  intro HD HM
  obtain ⟨z, st⟩ := q
  rintro e w1 ⟨zn, ze, rfl, hgz, hb⟩
  replace hgz : Gr w1 (fun k => W0.heap.size ≤ k) z zn ze := hgz
  obtain ⟨⟨A3, L3, c3, rfl⟩, A4, L4, c4, rfl⟩ := hgz.sl3
  have HZ := Lib.hid (hgz.mono (S' := fun k => w.heap.size + 7 ≤ k ∨ k < w.heap.size) fun k hk _ => .inl (Nat.le_trans R0.out.hl hk))
  clear hgz
  have R1 := Lib.hid (R0.out.below hb)
  have s1 := R1.out.hl
  clear hb R0 x0 x1 x2 x3 xf o0 o1 o2 o3 o4 of
  obtain ⟨y0, y1, y2, y3, yf⟩ := R1.out.bh
  obtain ⟨r0, r1, r2, r3, r4, rf⟩ := R1.out.br
  simp only
  go_wp2_with fail
  refine CUT.out _ _ _ _ _ _ _ _ _ _ _ _ _ _ _ _ _ _ _ _ _ _ _ _ _ _ _ _ _ _ _ _ _ _ _ _ _ _ _ _ _ _ _ _ _ _ _ _ _ _ _ _ _ _ _ _ _ _ _ _ _ _ _ _ _ _ _ _ _ _ _ _ _ _ _ _ _ _ _ _ _ _ _ _ _ _ _ _ _ _ _ _ _ _ _ _ _ _ _ _ _ _ _ _ _ _ _ _ _ _ _ _ _ _ _ _ _ _ _ _ _ _ _ _ _ _ _ _ _ _ _ _ ((R1.out.setH HZ.out).setR0 st) ?_ ?_
  ·
   exact HM.out
  ·
   exact HD.out
 by_cases h4 : k = 4
 case pos =>
  subst h4
  obtain ⟨x0, x1, x2, x3, xf⟩ := R0.out.bg
  obtain ⟨o0, o1, o2, o3, o4, of⟩ := R0.out.op
  have HD := Lib.hid (show doOf c g ⟨4, a, b, p, v⟩ = (if (setOf g a p v).2 = 0 then (setOf g a p v).1 else g, ⟨(setOf g a p v).2, 0, [], [], []⟩) from rfl)
  go_simp
  go_wp2_with fail
  refine (refSet_calls W0 _ g _ _ a p v R0.out.hg HS.out.small).mono ?_
  have HM := Lib.hid (chg_small (o := ⟨4, a, b, p, v⟩) HS.out rfl : (setOf g a p v).2 = 0 → (setOf g a p v).1.small)
  revert HD HM
  generalize setOf g a p v = q
  intro HD HM
  obtain ⟨z, st⟩ := q
  rintro e w1 ⟨zn, ze, rfl, hgz, hb⟩
  replace hgz : Gr w1 (fun k => W0.heap.size ≤ k) z zn ze := hgz
  obtain ⟨⟨A3, L3, c3, rfl⟩, A4, L4, c4, rfl⟩ := hgz.sl3
  have HZ := Lib.hid (hgz.mono (S' := fun k => w.heap.size + 7 ≤ k ∨ k < w.heap.size) fun k hk _ => .inl (Nat.le_trans R0.out.hl hk))
  clear hgz
  have R1 := Lib.hid (R0.out.below hb)
  have s1 := R1.out.hl
  clear hb R0 x0 x1 x2 x3 xf o0 o1 o2 o3 o4 of
  obtain ⟨y0, y1, y2, y3, yf⟩ := R1.out.bh
  obtain ⟨r0, r1, r2, r3, r4, rf⟩ := R1.out.br
  simp only
  go_wp2_with fail
  refine CUT.out _ _ _ _ _ _ _ _ _ _ _ _ _ _ _ _ _ _ _ _ _ _ _ _ _ _ _ _ _ _ _ _ _ _ _ _ _ _ _ _ _ _ _ _ _ _ _ _ _ _ _ _ _ _ _ _ _ _ _ _ _ _ _ _ _ _ _ _ _ _ _ _ _ _ _ _ _ _ _ _ _ _ _ _ _ _ _ _ _ _ _ _ _ _ _ _ _ _ _ _ _ _ _ _ _ _ _ _ _ _ _ _ _ _ _ _ _ _ _ _ _ _ _ _ _ _ _ _ _ _ _ _ ((R1.out.setH HZ.out).setR0 st) ?_ ?_
  ·
   exact HM.out
  ·
   exact HD.out
 by_cases h5 : k = 5
 case pos =>
  subst h5
  obtain ⟨x0, x1, x2, x3, xf⟩ := R0.out.bg
  obtain ⟨o0, o1, o2, o3, o4, of⟩ := R0.out.op
  have HD := Lib.hid (show doOf c g ⟨5, a, b, p, v⟩ = (if (delOf g a p).2 = 0 then (delOf g a p).1 else g, ⟨(delOf g a p).2, 0, [], [], []⟩) from rfl)
  go_simp
  go_wp2_with fail
  refine (refDel_calls W0 _ g _ _ a p R0.out.hg HS.out.small).mono ?_
  have HM := Lib.hid (chg_small (o := ⟨5, a, b, p, v⟩) HS.out rfl : (delOf g a p).2 = 0 → (delOf g a p).1.small)
  revert HD HM
  generalize delOf g a p = q
  intro HD HM
  obtain ⟨z, st⟩ := q
  rintro e w1 ⟨zn, ze, rfl, hgz, hb⟩
  replace hgz : Gr w1 (fun k => W0.heap.size ≤ k) z zn ze := hgz
  obtain ⟨⟨A3, L3, c3, rfl⟩, A4, L4, c4, rfl⟩ := hgz.sl3
  have HZ := Lib.hid (hgz.mono (S' := fun k => w.heap.size + 7 ≤ k ∨ k < w.heap.size) fun k hk _ => .inl (Nat.le_trans R0.out.hl hk))
  clear hgz
  have R1 := Lib.hid (R0.out.below hb)
  have s1 := R1.out.hl
  clear hb R0 x0 x1 x2 x3 xf o0 o1 o2 o3 o4 of
  obtain ⟨y0, y1, y2, y3, yf⟩ := R1.out.bh
  obtain ⟨r0, r1, r2, r3, r4, rf⟩ := R1.out.br
  simp only
  go_wp2_with fail
  refine CUT.out _ _ _ _ _ _ _ _ _ _ _ _ _ _ _ _ _ _ _ _ _ _ _ _ _ _ _ _ _ _ _ _ _ _ _ _ _ _ _ _ _ _ _ _ _ _ _ _ _ _ _ _ _ _ _ _ _ _ _ _ _ _ _ _ _ _ _ _ _ _ _ _ _ _ _ _ _ _ _ _ _ _ _ _ _ _ _ _ _ _ _ _ _ _ _ _ _ _ _ _ _ _ _ _ _ _ _ _ _ _ _ _ _ _ _ _ _ _ _ _ _ _ _ _ _ _ _ _ _ _ _ _ ((R1.out.setH HZ.out).setR0 st) ?_ ?_
  ·
   exact HM.out
  ·
   exact HD.out
 by_cases h6 : k = 6
 case pos =>
  subst h6
  obtain ⟨x0, x1, x2, x3, xf⟩ := R0.out.bg
  obtain ⟨o0, o1, o2, o3, o4, of⟩ := R0.out.op
  have HD := Lib.hid (show doOf c g ⟨6, a, b, p, v⟩ = (g, ⟨(getOf g a).2, 0, (getOf g a).1, [], []⟩) from rfl)
  go_simp
  go_wp2_with fail
  refine (refGet_calls W0 _ g _ _ a R0.out.hg HS.out.small).mono ?_
  revert HD
  generalize getOf g a = q
  intro HD
  obtain ⟨ps, st⟩ := q
  rintro e w1 ⟨vp, rfl, ho, hb⟩
  obtain ⟨B1, d1, rfl⟩ := ho.row.slice
  have HP := Lib.hid (ho.row.mono (S' := fun k => w.heap.size + 7 ≤ k) fun k hk _ => Nat.le_trans R0.out.hl hk)
  clear ho
  have R1 := Lib.hid (R0.out.below hb)
  have s1 := R1.out.hl
  clear hb R0 x0 x1 x2 x3 xf o0 o1 o2 o3 o4 of
  obtain ⟨y0, y1, y2, y3, yf⟩ := R1.out.bh
  obtain ⟨r0, r1, r2, r3, r4, rf⟩ := R1.out.br
  simp only
  go_wp2_with fail
  refine CUT.out _ _ _ _ _ _ _ _ _ _ _ _ _ _ _ _ _ _ _ _ _ _ _ _ _ _ _ _ _ _ _ _ _ _ _ _ _ _ _ _ _ _ _ _ _ _ _ _ _ _ _ _ _ _ _ _ _ _ _ _ _ _ _ _ _ _ _ _ _ _ _ _ _ _ _ _ _ _ _ _ _ _ _ _ _ _ _ _ _ _ _ _ _ _ _ _ _ _ _ _ _ _ _ _ _ _ _ _ _ _ _ _ _ _ _ _ _ _ _ _ _ _ _ _ _ _ _ _ _ _ _ _ ((R1.out.setR2 HP.out).setR0 st) ?_ ?_
  ·
   exact fun _ => HS.out.small
  ·
   rw [HD.out]; simp
 by_cases h7 : k = 7
 case pos =>
  subst h7
  obtain ⟨x0, x1, x2, x3, xf⟩ := R0.out.bg
  obtain ⟨o0, o1, o2, o3, o4, of⟩ := R0.out.op
  have HD := Lib.hid (show doOf c g ⟨7, a, b, p, v⟩ = (g, ⟨(nearOf g a).2.2, 0, [], (nearOf g a).1, (nearOf g a).2.1⟩) from rfl)
  go_simp
  go_wp2_with fail
  refine (refNear_calls W0 _ g _ _ a R0.out.hg HS.out.small.1 HS.out.small.2.1).mono ?_
  revert HD
  generalize nearOf g a = q
  intro HD
  obtain ⟨os, is, st⟩ := q
  rintro e w1 ⟨vo, vi, rfl, ho, hi, hb⟩
  replace ho : Row tP w1 (fun k => W0.heap.size ≤ k) vo os := ho
  replace hi : Row tP w1 (fun k => W0.heap.size ≤ k) vi is := hi
  obtain ⟨B1, d1, rfl⟩ := ho.slice
  obtain ⟨B2, d2, rfl⟩ := hi.slice
  have HO := Lib.hid (ho.mono (S' := fun k => w.heap.size + 7 ≤ k) fun k hk _ => Nat.le_trans R0.out.hl hk)
  have HI := Lib.hid (hi.mono (S' := fun k => w.heap.size + 7 ≤ k) fun k hk _ => Nat.le_trans R0.out.hl hk)
  clear ho hi
  have R1 := Lib.hid (R0.out.below hb)
  have s1 := R1.out.hl
  clear hb R0 x0 x1 x2 x3 xf o0 o1 o2 o3 o4 of
  obtain ⟨y0, y1, y2, y3, yf⟩ := R1.out.bh
  obtain ⟨r0, r1, r2, r3, r4, rf⟩ := R1.out.br
  simp only
  go_wp2_with fail
  refine CUT.out _ _ _ _ _ _ _ _ _ _ _ _ _ _ _ _ _ _ _ _ _ _ _ _ _ _ _ _ _ _ _ _ _ _ _ _ _ _ _ _ _ _ _ _ _ _ _ _ _ _ _ _ _ _ _ _ _ _ _ _ _ _ _ _ _ _ _ _ _ _ _ _ _ _ _ _ _ _ _ _ _ _ _ _ _ _ _ _ _ _ _ _ _ _ _ _ _ _ _ _ _ _ _ _ _ _ _ _ _ _ _ _ _ _ _ _ _ _ _ _ _ _ _ _ _ _ _ _ _ _ _ _ (((R1.out.setR3 HO.out).setR4 (HI.out.move fun k hk _ => Below.heap_setCell _ ⟨w.heap.size + 1 + 1 + 1 + 1 + 1 + 1, 3, none⟩ _ k (by simp only at hk ⊢; omega))).setR0 st) ?_ ?_
  ·
   exact fun _ => HS.out.small
  ·
   rw [HD.out]; simp
 by_cases h8 : k = 8
 case pos =>
  subst h8
  obtain ⟨x0, x1, x2, x3, xf⟩ := R0.out.bg
  obtain ⟨o0, o1, o2, o3, o4, of⟩ := R0.out.op
  have HD := Lib.hid (show doOf c g ⟨8, a, b, p, v⟩ = (if (dropOf g a).2 = 0 then (dropOf g a).1 else g, ⟨(dropOf g a).2, 0, [], [], []⟩) from rfl)
  go_simp
  go_wp2_with fail
  refine (refDrop_calls W0 _ g _ _ a R0.out.hg HS.out.small).mono ?_
  have HM := Lib.hid (chg_small (o := ⟨8, a, b, p, v⟩) HS.out rfl : (dropOf g a).2 = 0 → (dropOf g a).1.small)
  revert HD HM
  generalize dropOf g a = q
  intro HD HM
  obtain ⟨z, st⟩ := q
  rintro e w1 ⟨zn, ze, rfl, hgz, hb⟩
  replace hgz : Gr w1 (fun k => W0.heap.size ≤ k) z zn ze := hgz
  obtain ⟨⟨A3, L3, c3, rfl⟩, A4, L4, c4, rfl⟩ := hgz.sl3
  have HZ := Lib.hid (hgz.mono (S' := fun k => w.heap.size + 7 ≤ k ∨ k < w.heap.size) fun k hk _ => .inl (Nat.le_trans R0.out.hl hk))
  clear hgz
  have R1 := Lib.hid (R0.out.below hb)
  have s1 := R1.out.hl
  clear hb R0 x0 x1 x2 x3 xf o0 o1 o2 o3 o4 of
  obtain ⟨y0, y1, y2, y3, yf⟩ := R1.out.bh
  obtain ⟨r0, r1, r2, r3, r4, rf⟩ := R1.out.br
  simp only
  go_wp2_with fail
  refine CUT.out _ _ _ _ _ _ _ _ _ _ _ _ _ _ _ _ _ _ _ _ _ _ _ _ _ _ _ _ _ _ _ _ _ _ _ _ _ _ _ _ _ _ _ _ _ _ _ _ _ _ _ _ _ _ _ _ _ _ _ _ _ _ _ _ _ _ _ _ _ _ _ _ _ _ _ _ _ _ _ _ _ _ _ _ _ _ _ _ _ _ _ _ _ _ _ _ _ _ _ _ _ _ _ _ _ _ _ _ _ _ _ _ _ _ _ _ _ _ _ _ _ _ _ _ _ _ _ _ _ _ _ _ ((R1.out.setH HZ.out).setR0 st) ?_ ?_
  ·
   exact HM.out
  ·
   exact HD.out
 by_cases h9 : k = 9
 case pos =>
  subst h9
  obtain ⟨x0, x1, x2, x3, xf⟩ := R0.out.bg
  obtain ⟨o0, o1, o2, o3, o4, of⟩ := R0.out.op
  have HD := Lib.hid (show doOf c g ⟨9, a, b, p, v⟩ = (if (fuseOf g a b).2 = 0 then (fuseOf g a b).1 else g, ⟨(fuseOf g a b).2, 0, [], [], []⟩) from rfl)
  go_simp
  go_wp2_with fail
  refine (refFuse_calls W0 _ g _ _ a b R0.out.hg HS.out.small HS.out.hp).mono ?_
  have HM := Lib.hid (chg_small (o := ⟨9, a, b, p, v⟩) HS.out rfl : (fuseOf g a b).2 = 0 → (fuseOf g a b).1.small)
  revert HD HM
  generalize fuseOf g a b = q
  intro HD HM
  obtain ⟨z, st⟩ := q
  rintro e w1 ⟨zn, ze, rfl, hgz, hb⟩
  replace hgz : Gr w1 (fun k => W0.heap.size ≤ k) z zn ze := hgz
  obtain ⟨⟨A3, L3, c3, rfl⟩, A4, L4, c4, rfl⟩ := hgz.sl3
  have HZ := Lib.hid (hgz.mono (S' := fun k => w.heap.size + 7 ≤ k ∨ k < w.heap.size) fun k hk _ => .inl (Nat.le_trans R0.out.hl hk))
  clear hgz
  have R1 := Lib.hid (R0.out.below hb)
  have s1 := R1.out.hl
  clear hb R0 x0 x1 x2 x3 xf o0 o1 o2 o3 o4 of
  obtain ⟨y0, y1, y2, y3, yf⟩ := R1.out.bh
  obtain ⟨r0, r1, r2, r3, r4, rf⟩ := R1.out.br
  simp only
  go_wp2_with fail
  refine CUT.out _ _ _ _ _ _ _ _ _ _ _ _ _ _ _ _ _ _ _ _ _ _ _ _ _ _ _ _ _ _ _ _ _ _ _ _ _ _ _ _ _ _ _ _ _ _ _ _ _ _ _ _ _ _ _ _ _ _ _ _ _ _ _ _ _ _ _ _ _ _ _ _ _ _ _ _ _ _ _ _ _ _ _ _ _ _ _ _ _ _ _ _ _ _ _ _ _ _ _ _ _ _ _ _ _ _ _ _ _ _ _ _ _ _ _ _ _ _ _ _ _ _ _ _ _ _ _ _ _ _ _ _ ((R1.out.setH HZ.out).setR0 st) ?_ ?_
  ·
   exact HM.out
  ·
   exact HD.out
 have HD : doOf c g ⟨k, a, b, p, v⟩ = (g, ⟨1, 0, [], [], []⟩) := by simp [doOf, chg, lookOf, h1, h2, h3, h4, h5, h6, h7, h8, h9]
 obtain ⟨o0, o1, o2, o3, o4, of⟩ := R0.out.op
 have e1 : (k == 1) = false := by simpa using h1
 have e2 : (k == 2) = false := by simpa using h2
 have e3 : (k == 3) = false := by simpa using h3
 have e4 : (k == 4) = false := by simpa using h4
 have e5 : (k == 5) = false := by simpa using h5
 have e6 : (k == 6) = false := by simpa using h6
 have e7 : (k == 7) = false := by simpa using h7
 have e8 : (k == 8) = false := by simpa using h8
 have e9 : (k == 9) = false := by simpa using h9
 go_simp
 go_wp2_with fail
 refine CUT.out _ _ _ _ _ _ _ _ _ _ _ _ _ _ _ _ _ _ _ _ _ _ _ _ _ _ _ _ _ _ _ _ _ _ _ _ _ _ _ _ _ _ _ _ _ _ _ _ _ _ _ _ _ _ _ _ _ _ _ _ _ _ _ _ _ _ _ _ _ _ _ _ _ _ _ _ _ _ _ _ _ _ _ _ _ _ _ _ _ _ _ _ _ _ _ _ _ _ _ _ _ _ _ _ _ _ _ _ _ _ _ _ _ _ _ _ _ _ _ _ _ _ _ _ _ _ _ _ _ _ _ _ (R0.out) ?_ ?_
 ·
  exact fun _ => HS.out.small
 ·
  rw [HD]; simp

end Go.Proofs.YtpehmmdbjakkpaaGreat
