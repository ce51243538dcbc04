/- GraphLooks: whether any graph may be, and any two are the same. -/
import Derived.Test.YtpehmmdbjakkpaaRefCheckB
import Derived.Test.YtpehmmdbjakkpaaRefSameB
import Derived.Test.YtpehmmdbjakkpaaLiveG
namespace Go.Proofs.Ytpehmmdbjakkpaa
open Go.RowKit Go.Shelf
set_option linter.unusedSimpArgs false
set_option linter.unusedVariables false
theorem refNew_calls (w : World) : Calls Try.prog 50 #[] w fun e w' => e = .returned (.agg #[.slice none 0 0, .slice none 0 0, .int .i64 1, .int .i64 1]) ∧ Below w.heap.size w w' := by
  go_enter Try.func50, Try.ntmps50
  go_wp2
  refine bodyPost_ret (v := .agg #[.slice none 0 0, .slice none 0 0, .int .i64 1, .int .i64 1]) (by simp [results, Try.results50, go_sem]; try rfl) rfl ⟨rfl, (Below.refl _ _).alloc (Nat.le_refl _) _⟩
set_option maxRecDepth 100000 in
set_option maxHeartbeats 16000000 in
theorem graphLooks_walk (w : World) (c : CfgD) (g : GraphD) (vn ve : Value) (hg : Gr w (fun _ => True) g vn ve) (h : GraphD) (un ue : Value) (hh : Gr w (fun _ => True) h un ue) : Calls Try.prog 7 #[c.val, .agg #[vn, ve, .int .i64 g.nn, .int .i64 g.ne], .agg #[un, ue, .int .i64 h.nn, .int .i64 h.ne]] w fun e w' => e = .returned (.bool true) ∧ Below w.heap.size w w' := by
  obtain ⟨⟨A1, c1, rfl⟩, ⟨A2, c2, rfl⟩⟩ := hg.slices
  obtain ⟨⟨A3, c3, rfl⟩, ⟨A4, c4, rfl⟩⟩ := hh.slices
  obtain ⟨W0, hW⟩ : ∃ W0, W0 = ((w.alloc (.cells #[.int .i64 c.nodes, .int .i64 c.edges, .int .i64 c.props, .int .i64 c.ids, .int .i64 c.eids] 23)).alloc (.cells #[.slice A1 g.nodes.length c1, .slice A2 g.edges.length c2, .int .i64 g.nn, .int .i64 g.ne] 27)).alloc (.cells #[.slice A3 h.nodes.length c3, .slice A4 h.edges.length c4, .int .i64 h.nn, .int .i64 h.ne] 27) := ⟨_, rfl⟩
  have KW := Lib.hid (show Below w.heap.size w W0 by rw [hW]; exact (((Below.refl w.heap.size w).alloc (Nat.le_refl _) _).alloc (by simp) _).alloc (by simp; omega) _)
  have BX := Lib.hid (show Box4 W0 (w.heap.size + 1) (.slice A1 g.nodes.length c1) (.slice A2 g.edges.length c2) (.int .i64 g.nn) (.int .i64 g.ne) by
    rw [hW]
    have := Box4.made (w.alloc (.cells #[.int .i64 c.nodes, .int .i64 c.edges, .int .i64 c.props, .int .i64 c.ids, .int .i64 c.eids] 23)) 27 (.slice A1 g.nodes.length c1) (.slice A2 g.edges.length c2) (.int .i64 g.nn) (.int .i64 g.ne)
    rw [World.size_alloc] at this
    exact this.keep (Below.heap_alloc _ _ _ (by simp)))
  have BY := Lib.hid (show Box4 W0 (w.heap.size + 1 + 1) (.slice A3 h.nodes.length c3) (.slice A4 h.edges.length c4) (.int .i64 h.nn) (.int .i64 h.ne) by
    rw [hW]
    have := Box4.made ((w.alloc (.cells #[.int .i64 c.nodes, .int .i64 c.edges, .int .i64 c.props, .int .i64 c.ids, .int .i64 c.eids] 23)).alloc (.cells #[.slice A1 g.nodes.length c1, .slice A2 g.edges.length c2, .int .i64 g.nn, .int .i64 g.ne] 27)) 27 (.slice A3 h.nodes.length c3) (.slice A4 h.edges.length c4) (.int .i64 h.nn) (.int .i64 h.ne)
    rw [World.size_alloc, World.size_alloc] at this
    exact this)
  have CF := Lib.hid (show W0.heap[w.heap.size]? = some (.cells #[.int .i64 c.nodes, .int .i64 c.edges, .int .i64 c.props, .int .i64 c.ids, .int .i64 c.eids] 23 (0, 0)) by rw [hW]; exact (Below.heap_alloc _ _ _ (by simp; omega)).trans ((Below.heap_alloc _ _ _ (by simp)).trans (heap_alloc_new w _)))
  have s0 : W0.heap.size = w.heap.size + 1 + 1 + 1 := by rw [hW]; simp
  have HG := Lib.hid (hg.below KW.out)
  have HH := Lib.hid (hh.below KW.out)
  have HW := Lib.hid hW
  clear hW hg hh
  unfold CfgD.val
  go_enter Try.func7, Try.ntmps7
  go_wp2_with fail
  rw [← HW.out]
  refine (live_calls W0).mono ?_
  rintro e w1 ⟨rfl, hb⟩
  have s1 := hb.size
  have K1 := Lib.hid (KW.out.trans (hb.mono KW.out.size))
  have BX1 := Lib.hid (BX.out.keep (hb.block _ (by omega)))
  have BY1 := Lib.hid (BY.out.keep (hb.block _ (by omega)))
  have CF1 := Lib.hid ((hb.block w.heap.size (by omega)).trans CF.out)
  have HG1 := Lib.hid (HG.out.below hb)
  have HH1 := Lib.hid (HH.out.below hb)
  clear hb KW BX BY CF HG HH HW
  have g1 : w.heap.size + 1 < w1.heap.size := by omega
  obtain ⟨x0, x1, x2, x3, xf⟩ := BX1.out
  go_wp2_with fail
  refine (few_calls w1 _ g _ _ HG1.out).mono ?_
  rintro e w2 ⟨b, rfl, hfg, hb⟩
  have s2 := hb.size
  have K2 := Lib.hid (K1.out.trans (hb.mono K1.out.size))
  have BX2 := Lib.hid (BX1.out.keep (hb.block _ (by omega)))
  have BY2 := Lib.hid (BY1.out.keep (hb.block _ (by omega)))
  have CF2 := Lib.hid ((hb.block w.heap.size (by omega)).trans CF1.out)
  have HG2 := Lib.hid (HG1.out.below hb)
  have HH2 := Lib.hid (HH1.out.below hb)
  clear hb BX1 BY1 CF1 HG1 HH1 x0 x1 x2 x3 xf K1
  cases b
  · go_wp2
    go_ret
    exact ⟨rfl, K2.out⟩
  have HFG := Lib.hid (hfg rfl)
  clear hfg
  have g2 : w.heap.size + 1 + 1 < w2.heap.size := by omega
  obtain ⟨y0, y1, y2, y3, yf⟩ := BY2.out
  go_wp2_with fail
  refine (few_calls w2 _ h _ _ HH2.out).mono ?_
  rintro e w3 ⟨b, rfl, hfh, hb⟩
  have s3 := hb.size
  have K3 := Lib.hid (K2.out.trans (hb.mono K2.out.size))
  have BX3 := Lib.hid (BX2.out.keep (hb.block _ (by omega)))
  have BY3 := Lib.hid (BY2.out.keep (hb.block _ (by omega)))
  have CF3 := Lib.hid ((hb.block w.heap.size (by omega)).trans CF2.out)
  have HG3 := Lib.hid (HG2.out.below hb)
  have HH3 := Lib.hid (HH2.out.below hb)
  clear hb BX2 BY2 CF2 HG2 HH2 y0 y1 y2 y3 yf K2
  cases b
  · go_wp2
    go_ret
    exact ⟨rfl, K3.out⟩
  have HFH := Lib.hid (hfh rfl)
  clear hfh
  have g3 : w.heap.size + 1 + 1 < w3.heap.size := by omega
  have g4 : w.heap.size + 1 < w3.heap.size := by omega
  have g5 : w.heap.size < w3.heap.size := by omega
  obtain ⟨x0, x1, x2, x3, xf⟩ := BX3.out
  obtain ⟨y0, y1, y2, y3, yf⟩ := BY3.out
  have cf := CF3.out
  have d0 : w3.cell? ⟨w.heap.size, 0, none⟩ = some (.int .i64 c.nodes) := by unfold World.cell?; rw [cf]; rfl
  have d1 : w3.cell? ⟨w.heap.size, 1, none⟩ = some (.int .i64 c.edges) := by unfold World.cell?; rw [cf]; rfl
  have d2 : w3.cell? ⟨w.heap.size, 2, none⟩ = some (.int .i64 c.props) := by unfold World.cell?; rw [cf]; rfl
  have d3 : w3.cell? ⟨w.heap.size, 3, none⟩ = some (.int .i64 c.ids) := by unfold World.cell?; rw [cf]; rfl
  have d4 : w3.cell? ⟨w.heap.size, 4, none⟩ = some (.int .i64 c.eids) := by unfold World.cell?; rw [cf]; rfl
  clear cf
  go_wp2_with fail
  refine wp_region_schedK (fun _ => True) [(0, true), (1, true), (3, true), (4, true), (2, false), (5, false), (6, true), (7, true), (8, true), (9, true), (11, true), (12, true), (10, false), (13, false), (14, true), (15, true), (16, true), (17, false), (18, false), (19, false), (20, true), (21, true)] (by kernel_rfl) (by kernel_rfl) (fun hS => ?_)
  have HK := Lib.hid hS
  clear hS
  repeat (first | (refine sched_take (v := ?_) (by simp only [List.getElem?_toArray, List.getElem?_cons_succ, List.getElem?_cons_zero]; rfl) (Or.inl ⟨by rfl, fun W hW => ?_⟩) HK.out ?_; rotate_left; (have hc := fun b o hb => hW.cell b o trivial hb; clear hW; go_simp; with_reducible rfl); simp only [Act.put, List.setIfInBounds_toArray, List.set_cons_zero, List.set_cons_succ]) | (refine sched_take (by simp only [List.getElem?_toArray, List.getElem?_cons_succ, List.getElem?_cons_zero]; rfl) (Or.inr ⟨by rfl, rfl⟩) HK.out ?_; simp only [Act.put, List.setIfInBounds_toArray, List.set_cons_zero, List.set_cons_succ]))
  refine sched_step (by simp only [List.getElem?_toArray, List.getElem?_cons_succ, List.getElem?_cons_zero]; rfl) ?_
  go_wp2_with fail
  refine (check_calls w3.drew _ c g _ _ (HG3.out.below (Below.refl w3.heap.size w3).drew) HFG.out.mid).mono ?_
  rintro e w4 ⟨p, rfl, hp, hb⟩
  have HK4 := Lib.hid (HK.out.below hb)
  have B4 := Lib.hid ((Below.refl w3.heap.size w3).drew.trans hb)
  have HPX := Lib.hid hp
  clear hb hp
  go_wp2_with fail
  refine sched_on HK4.out ?_
  repeat (first | (refine sched_take (v := ?_) (by simp only [List.getElem?_toArray, List.getElem?_cons_succ, List.getElem?_cons_zero]; rfl) (Or.inl ⟨by rfl, fun W hW => ?_⟩) HK4.out ?_; rotate_left; (have hc := fun b o hb => hW.cell b o trivial hb; clear hW; go_simp; with_reducible rfl); simp only [Act.put, List.setIfInBounds_toArray, List.set_cons_zero, List.set_cons_succ]) | (refine sched_take (by simp only [List.getElem?_toArray, List.getElem?_cons_succ, List.getElem?_cons_zero]; rfl) (Or.inr ⟨by rfl, rfl⟩) HK4.out ?_; simp only [Act.put, List.setIfInBounds_toArray, List.set_cons_zero, List.set_cons_succ]))
  refine sched_step (by simp only [List.getElem?_toArray, List.getElem?_cons_succ, List.getElem?_cons_zero]; rfl) ?_
  go_wp2_with fail
  refine (refCheckB_calls w4 _ c g _ _ (HG3.out.below B4.out) HFG.out).mono ?_
  rintro e w5 ⟨q, rfl, hq, hb⟩
  obtain rfl : p = q := by
    rcases HPX.out with ⟨rfl, h1⟩ | ⟨rfl, h1⟩ <;> rcases hq with ⟨rfl, h2⟩ | ⟨rfl, h2⟩
    · rfl
    · exact absurd h1 h2
    · exact absurd h2 h1
    · rfl
  have HK5 := Lib.hid (HK4.out.below hb)
  have B5 := Lib.hid (B4.out.trans (hb.mono B4.out.size))
  clear hb hq HPX HK4
  go_wp2_with fail
  refine sched_on HK5.out ?_
  repeat (first | (refine sched_take (v := ?_) (by simp only [List.getElem?_toArray, List.getElem?_cons_succ, List.getElem?_cons_zero]; rfl) (Or.inl ⟨by rfl, fun W hW => ?_⟩) HK5.out ?_; rotate_left; (have hc := fun b o hb => hW.cell b o trivial hb; clear hW; go_simp; with_reducible rfl); simp only [Act.put, List.setIfInBounds_toArray, List.set_cons_zero, List.set_cons_succ]) | (refine sched_take (by simp only [List.getElem?_toArray, List.getElem?_cons_succ, List.getElem?_cons_zero]; rfl) (Or.inr ⟨by rfl, rfl⟩) HK5.out ?_; simp only [Act.put, List.setIfInBounds_toArray, List.set_cons_zero, List.set_cons_succ]))
  refine sched_step (by simp only [List.getElem?_toArray, List.getElem?_cons_succ, List.getElem?_cons_zero]; rfl) ?_
  go_wp2_with fail
  refine (same_calls w5 _ g h _ _ _ _ (HG3.out.below B5.out) (HH3.out.below B5.out)).mono ?_
  rintro e w6 ⟨b1, rfl, hq1, hb⟩
  have HK6 := Lib.hid (HK5.out.below hb)
  have B6 := Lib.hid (B5.out.trans (hb.mono B5.out.size))
  have HQ1 := Lib.hid hq1
  clear hb hq1 HK5
  go_wp2_with fail
  refine sched_on HK6.out ?_
  repeat (first | (refine sched_take (v := ?_) (by simp only [List.getElem?_toArray, List.getElem?_cons_succ, List.getElem?_cons_zero]; rfl) (Or.inl ⟨by rfl, fun W hW => ?_⟩) HK6.out ?_; rotate_left; (have hc := fun b o hb => hW.cell b o trivial hb; clear hW; go_simp; with_reducible rfl); simp only [Act.put, List.setIfInBounds_toArray, List.set_cons_zero, List.set_cons_succ]) | (refine sched_take (by simp only [List.getElem?_toArray, List.getElem?_cons_succ, List.getElem?_cons_zero]; rfl) (Or.inr ⟨by rfl, rfl⟩) HK6.out ?_; simp only [Act.put, List.setIfInBounds_toArray, List.set_cons_zero, List.set_cons_succ]))
  refine sched_step (by simp only [List.getElem?_toArray, List.getElem?_cons_succ, List.getElem?_cons_zero]; rfl) ?_
  go_wp2_with fail
  refine (refSameB_calls w6 _ g h _ _ _ _ (HG3.out.below B6.out) (HH3.out.below B6.out)).mono ?_
  rintro e w7 ⟨b2, rfl, hq2, hb⟩
  obtain rfl : b1 = b2 := by rw [Bool.eq_iff_iff, HQ1.out, hq2]
  have HK7 := Lib.hid (HK6.out.below hb)
  have B7 := Lib.hid (B6.out.trans (hb.mono B6.out.size))
  clear hb hq2 HK6 HQ1
  go_wp2_with fail
  refine sched_on HK7.out ?_
  repeat (first | (refine sched_take (v := ?_) (by simp only [List.getElem?_toArray, List.getElem?_cons_succ, List.getElem?_cons_zero]; rfl) (Or.inl ⟨by rfl, fun W hW => ?_⟩) HK7.out ?_; rotate_left; (have hc := fun b o hb => hW.cell b o trivial hb; clear hW; go_simp; with_reducible rfl); simp only [Act.put, List.setIfInBounds_toArray, List.set_cons_zero, List.set_cons_succ]) | (refine sched_take (by simp only [List.getElem?_toArray, List.getElem?_cons_succ, List.getElem?_cons_zero]; rfl) (Or.inr ⟨by rfl, rfl⟩) HK7.out ?_; simp only [Act.put, List.setIfInBounds_toArray, List.set_cons_zero, List.set_cons_succ]))
  refine sched_step (by simp only [List.getElem?_toArray, List.getElem?_cons_succ, List.getElem?_cons_zero]; rfl) ?_
  go_wp2_with fail
  refine (new_calls w7).mono ?_
  rintro e w8 ⟨rfl, hb⟩
  have HK8 := Lib.hid (HK7.out.below hb)
  have B8 := Lib.hid (B7.out.trans (hb.mono B7.out.size))
  clear hb HK7
  go_wp2_with fail
  refine sched_on HK8.out ?_
  repeat (first | (refine sched_take (v := ?_) (by simp only [List.getElem?_toArray, List.getElem?_cons_succ, List.getElem?_cons_zero]; rfl) (Or.inl ⟨by rfl, fun W hW => ?_⟩) HK8.out ?_; rotate_left; (have hc := fun b o hb => hW.cell b o trivial hb; clear hW; go_simp; with_reducible rfl); simp only [Act.put, List.setIfInBounds_toArray, List.set_cons_zero, List.set_cons_succ]) | (refine sched_take (by simp only [List.getElem?_toArray, List.getElem?_cons_succ, List.getElem?_cons_zero]; rfl) (Or.inr ⟨by rfl, rfl⟩) HK8.out ?_; simp only [Act.put, List.setIfInBounds_toArray, List.set_cons_zero, List.set_cons_succ]))
  refine sched_step (by simp only [List.getElem?_toArray, List.getElem?_cons_succ, List.getElem?_cons_zero]; rfl) ?_
  go_wp2_with fail
  refine (refNew_calls w8).mono ?_
  rintro e w9 ⟨rfl, hb⟩
  have HK9 := Lib.hid (HK8.out.below hb)
  have B9 := Lib.hid (B8.out.trans (hb.mono B8.out.size))
  clear hb HK8
  go_wp2_with fail
  refine sched_on HK9.out ?_
  repeat (first | (refine sched_take (v := ?_) (by simp only [List.getElem?_toArray, List.getElem?_cons_succ, List.getElem?_cons_zero]; rfl) (Or.inl ⟨by rfl, fun W hW => ?_⟩) HK9.out ?_; rotate_left; (have hc := fun b o hb => hW.cell b o trivial hb; clear hW; go_simp; with_reducible rfl); simp only [Act.put, List.setIfInBounds_toArray, List.set_cons_zero, List.set_cons_succ]) | (refine sched_take (by simp only [List.getElem?_toArray, List.getElem?_cons_succ, List.getElem?_cons_zero]; rfl) (Or.inr ⟨by rfl, rfl⟩) HK9.out ?_; simp only [Act.put, List.setIfInBounds_toArray, List.set_cons_zero, List.set_cons_succ]))
  refine sched_step (by simp only [List.getElem?_toArray, List.getElem?_cons_succ, List.getElem?_cons_zero]; rfl) ?_
  go_wp2_with fail
  refine (refSame_calls w9 (fun _ => True) ⟨[], [], 1, 1⟩ _ _ _ _ (Gr.zero _ _ _ _) (Gr.zero _ _ _ _)).mono ?_
  rintro e w10 ⟨rfl, hb⟩
  have HK10 := Lib.hid (HK9.out.below hb)
  have B10 := Lib.hid (B9.out.trans (hb.mono B9.out.size))
  clear hb HK9
  go_wp2_with fail
  refine sched_on HK10.out ?_
  repeat (first | (refine sched_take (v := ?_) (by simp only [List.getElem?_toArray, List.getElem?_cons_succ, List.getElem?_cons_zero]; rfl) (Or.inl ⟨by rfl, fun W hW => ?_⟩) HK10.out ?_; rotate_left; (have hc := fun b o hb => hW.cell b o trivial hb; clear hW; go_simp; with_reducible rfl); simp only [Act.put, List.setIfInBounds_toArray, List.set_cons_zero, List.set_cons_succ]) | (refine sched_take (by simp only [List.getElem?_toArray, List.getElem?_cons_succ, List.getElem?_cons_zero]; rfl) (Or.inr ⟨by rfl, rfl⟩) HK10.out ?_; simp only [Act.put, List.setIfInBounds_toArray, List.set_cons_zero, List.set_cons_succ]))
  refine sched_done ?_
  have KE := Lib.hid (K3.out.trans (B10.out.mono K3.out.size))
  clear HK HK10 x0 x1 x2 x3 xf y0 y1 y2 y3 yf d0 d1 d2 d3 d4
  go_wp2
  go_ret
  exact ⟨rfl, KE.out⟩
end Go.Proofs.Ytpehmmdbjakkpaa
