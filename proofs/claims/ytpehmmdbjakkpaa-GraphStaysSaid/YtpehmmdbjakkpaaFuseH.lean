/- graph.Fuse: what it hands back, whatever the nodes. -/
import Derived.Test.YtpehmmdbjakkpaaFuseG
namespace Go.Proofs.Ytpehmmdbjakkpaa
open Go.RowKit Go.Shelf
set_option linter.unusedSimpArgs false
set_option linter.unusedVariables false
set_option maxRecDepth 20000 in
set_option maxHeartbeats 8000000 in
theorem fuseX_calls (w : World) (S : Nat → Prop) (g : GraphD) (vn ve : Value) (a b r : Int) (h : Gr w S g vn ve) (hs : g.nodes.length ≤ 1000000) (hab : (a = b ∧ r = 5) ∨ (a ≠ b ∧ (atOf g.nodes a < 0 ∨ atOf g.nodes b < 0) ∧ r = 2)) :
    Calls Try.prog 23 #[.agg #[vn, ve, .int .i64 g.nn, .int .i64 g.ne], .int .i64 a, .int .i64 b] w (Ret2 w (GraphD.zero, r)) := by
  obtain ⟨⟨A1, c1, rfl⟩, ⟨A2, c2, rfl⟩⟩ := h.slices
  have hW0 : Below w.heap.size w (((w.alloc (.cells #[.slice A1 g.nodes.length c1, .slice A2 g.edges.length c2, .int .i64 g.nn, .int .i64 g.ne] 27)).alloc (.cells #[.int .i64 b] 3)).alloc (.cells #[.slice none 0 0, .slice none 0 0, .int .i64 0, .int .i64 0] 27)) := (((Below.refl w.heap.size w).alloc (Nat.le_refl _) _).alloc (by simp) _).alloc (by simp; omega) _
  have KW := Lib.hid hW0.drew
  have BX := Lib.hid ((Box4.made w 27 (.slice A1 g.nodes.length c1) (.slice A2 g.edges.length c2) (.int .i64 g.nn) (.int .i64 g.ne)).keep (W' := (((w.alloc (.cells #[.slice A1 g.nodes.length c1, .slice A2 g.edges.length c2, .int .i64 g.nn, .int .i64 g.ne] 27)).alloc (.cells #[.int .i64 b] 3)).alloc (.cells #[.slice none 0 0, .slice none 0 0, .int .i64 0, .int .i64 0] 27))) (by rw [Below.heap_alloc _ _ _ (by simp; omega), Below.heap_alloc _ _ _ (by simp)]))
  have BR := Lib.hid (Box4.made ((w.alloc (.cells #[.slice A1 g.nodes.length c1, .slice A2 g.edges.length c2, .int .i64 g.nn, .int .i64 g.ne] 27)).alloc (.cells #[.int .i64 b] 3)) 27 (.slice none 0 0) (.slice none 0 0) (.int .i64 0) (.int .i64 0))
  have CB := Lib.hid (show (((w.alloc (.cells #[.slice A1 g.nodes.length c1, .slice A2 g.edges.length c2, .int .i64 g.nn, .int .i64 g.ne] 27)).alloc (.cells #[.int .i64 b] 3)).alloc (.cells #[.slice none 0 0, .slice none 0 0, .int .i64 0, .int .i64 0] 27)).cell? ⟨w.heap.size + 1, 0, none⟩ = some (.int .i64 b) by simp [go_sem])
  have H0 := Lib.hid (h.below hW0.drew)
  have HAB := Lib.hid hab
  clear hW0 h hab
  simp only [World.size_alloc] at BR
  go_enter Try.func23, Try.ntmps23
  go_wp2_with fail
  refine wp_region_schedK (fun _ => True) [(0, true), (1, true), (3, true), (4, true), (2, false), (5, false), (6, true), (7, true)] (by kernel_rfl) (by kernel_rfl) (fun hS => ?_)
  have HK := Lib.hid hS
  clear hS
  have g0 : w.heap.size < w.heap.size + 1 + 1 + 1 := by omega
  have g0' : w.heap.size + 1 < w.heap.size + 1 + 1 + 1 := by omega
  repeat (refine sched_take (v := ?_) (by simp only [List.getElem?_toArray, List.getElem?_cons_succ, List.getElem?_cons_zero]; rfl) (Or.inl ⟨by rfl, fun W hW => ?_⟩) HK.out ?_; rotate_left; (have hc := fun b o hb => hW.cell b o trivial hb; clear hW; go_simp; with_reducible rfl); simp only [Act.put, List.setIfInBounds_toArray, List.set_cons_zero, List.set_cons_succ])
  refine sched_step (by simp only [List.getElem?_toArray, List.getElem?_cons_succ, List.getElem?_cons_zero]; rfl) ?_
  go_wp2_with fail
  refine (at_calls _ S g _ _ a H0.out hs).mono ?_
  rintro e w1 ⟨rfl, hb1⟩
  have s1 := hb1.size
  have K1 := Lib.hid (KW.out.trans (hb1.mono (by simp; omega)))
  have HK1 := Lib.hid (HK.out.below hb1)
  have H1 := Lib.hid (H0.out.below hb1)
  have BX1 := Lib.hid (BX.out.keep (hb1.block w.heap.size (by simp; omega)))
  have BR1 := Lib.hid (BR.out.keep (hb1.block (w.heap.size + 1 + 1) (by simp)))
  have CB1 := Lib.hid ((hb1.cell (p := ⟨w.heap.size + 1, 0, none⟩) (by simp)).trans CB.out)
  clear hb1 BX BR CB KW H0
  simp only [World.size_alloc, World.size_drew] at s1
  go_wp2_with fail
  refine sched_on HK1.out ?_
  repeat (refine sched_take (v := ?_) (by simp only [List.getElem?_toArray, List.getElem?_cons_succ, List.getElem?_cons_zero]; rfl) (Or.inl ⟨by rfl, fun W hW => ?_⟩) HK1.out ?_; rotate_left; (have hc := fun b o hb => hW.cell b o trivial hb; clear hW; go_simp; with_reducible rfl); simp only [Act.put, List.setIfInBounds_toArray, List.set_cons_zero, List.set_cons_succ])
  refine sched_step (by simp only [List.getElem?_toArray, List.getElem?_cons_succ, List.getElem?_cons_zero]; rfl) ?_
  go_wp2_with fail
  refine (at_calls _ S g _ _ b H1.out hs).mono ?_
  rintro e w2 ⟨rfl, hb2⟩
  have s2 := hb2.size
  have K2 := Lib.hid (K1.out.trans (hb2.mono (by omega)))
  have HK2 := Lib.hid (HK1.out.below hb2)
  have BX2 := Lib.hid (BX1.out.keep (hb2.block w.heap.size (by omega)))
  have BR2 := Lib.hid (BR1.out.keep (hb2.block (w.heap.size + 1 + 1) (by omega)))
  have CB2 := Lib.hid ((hb2.cell (p := ⟨w.heap.size + 1, 0, none⟩) (by simp only; omega)).trans CB1.out)
  clear hb2 BX1 BR1 CB1 K1 H1
  generalize atOf g.nodes a = p at *
  generalize atOf g.nodes b = q at *
  go_wp2_with fail
  refine sched_on HK2.out ?_
  repeat (refine sched_take (v := ?_) (by simp only [List.getElem?_toArray, List.getElem?_cons_succ, List.getElem?_cons_zero]; rfl) (Or.inl ⟨by rfl, fun W hW => ?_⟩) HK2.out ?_; rotate_left; (have hc := fun b o hb => hW.cell b o trivial hb; clear hW; go_simp; with_reducible rfl); simp only [Act.put, List.setIfInBounds_toArray, List.set_cons_zero, List.set_cons_succ])
  refine sched_done ?_
  clear HK HK1 HK2 g0 g0'
  have g1 : w.heap.size < w2.heap.size := by omega
  have g2 : w.heap.size + 1 < w2.heap.size := by omega
  have g3 : w.heap.size + 1 + 1 < w2.heap.size := by omega
  obtain ⟨x0, x1, x2, x3, xf⟩ := BX2.out
  obtain ⟨y0, y1, y2, y3, yf⟩ := BR2.out
  have cb := CB2.out
  obtain ⟨m, hm0, hmin⟩ : ∃ m : Int, (p < 0 ∨ q < 0 → decide (m < 0) = true) ∧ ∀ (ts : Array TypeId) (t : TypeId) (W : World), (Builtin.min_ ts t #[.int .i64 p, .int .i64 q]).run Try.prog W = .ok (.int .i64 m) W := ⟨if q < p then q else p, fun h => decide_eq_true (by split <;> omega), fun ts t W => run_min_int2 ..⟩
  rcases HAB.out with ⟨h1, h2⟩ | ⟨h1, h2, h3⟩
  · replace h1 : (a == b) = true := beq_iff_eq.mpr h1
    clear hm0
    go_wp2
    refine bodyPost_ret (v := .tuple #[.agg #[.slice none 0 0, .slice none 0 0, .int .i64 0, .int .i64 0], .int .i64 5]) (by simp [results, Try.results23, go_sem, y0, y1, y2, y3]; try rfl) rfl ?_
    rw [h2]
    exact ⟨_, _, rfl, Gr.zero _ _ _ _, by first | exact set4_below K2.out (by omega) _ _ _ _⟩
  · replace h1 : (a == b) = false := beq_eq_false_iff_ne.mpr h1
    replace hm0 := hm0 h2
    clear h2
    go_wp2
    refine bodyPost_ret (v := .tuple #[.agg #[.slice none 0 0, .slice none 0 0, .int .i64 0, .int .i64 0], .int .i64 2]) (by simp [results, Try.results23, go_sem, y0, y1, y2, y3]; try rfl) rfl ?_
    rw [h3]
    exact ⟨_, _, rfl, Gr.zero _ _ _ _, by first | exact set4_below K2.out (by omega) _ _ _ _⟩
theorem getOf_at {g : GraphD} {n : Int} {i : Nat} {x : NodeD} (h : atOf g.nodes n = (i : Int)) (hx : g.nodes[i]? = some x) : (getOf g n).1 = x.ps := by rw [getOf_some h hx]
theorem fuse_calls (w : World) (S : Nat → Prop) (g : GraphD) (vn ve : Value) (a b : Int) (h : Gr w S g vn ve) (hs : g.small) (hr : ∀ x ∈ g.nodes, Rises x.ps x.ps.length) (hp : ∀ x ∈ g.nodes, x.ps.length ≤ 100) :
    Calls Try.prog 23 #[.agg #[vn, ve, .int .i64 g.nn, .int .i64 g.ne], .int .i64 a, .int .i64 b] w (Ret2 w (fuseOf g a b)) := by
  unfold fuseOf
  by_cases hab : a = b
  · rw [if_pos hab]
    exact fuseX_calls w S g vn ve a b 5 h hs.1 (.inl ⟨hab, rfl⟩)
  rw [if_neg hab]
  by_cases hn : atOf g.nodes a < 0 ∨ atOf g.nodes b < 0
  · rw [if_pos hn]
    exact fuseX_calls w S g vn ve a b 2 h hs.1 (.inr ⟨hab, hn, rfl⟩)
  rw [if_neg hn]
  obtain ⟨i, xi, hi, hxi, hidi⟩ := atOf_at (xs := g.nodes) (n := a) (by omega)
  obtain ⟨j, xj, hj, hxj, hidj⟩ := atOf_at (xs := g.nodes) (n := b) (by omega)
  have hij : i ≠ j := by
    rintro rfl
    rw [hxi] at hxj
    injection hxj with hxj
    subst hxj
    exact hab (hidi.symm.trans hidj)
  have h1 := fuseS_calls w S g vn ve a b h hs hab hi hj hxi hxj (hr xi (List.mem_of_getElem? hxi)) (hp xi (List.mem_of_getElem? hxi)) (hp xj (List.mem_of_getElem? hxj)) hij
  rw [getOf_at hi hxi, getOf_at hj hxj, setN_at hi hxi hidi]
  exact h1
end Go.Proofs.Ytpehmmdbjakkpaa
