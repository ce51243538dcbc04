/- GraphFuses: fused, a node has the edges of both, and no edge is lost; its own properties stay. -/
import Derived.Test.YtpehmmdbjakkpaaFuseH
import Derived.Test.YtpehmmdbjakkpaaGraphEdgesW
import Derived.Test.YtpehmmdbjakkpaaEqG
namespace Go.Proofs.Ytpehmmdbjakkpaa
open Go.RowKit Go.Shelf
set_option linter.unusedSimpArgs false
set_option linter.unusedVariables false
theorem eqlPa (w : World) (x y : P2) : (binOp .eql 47 (.agg #[.int .i64 x.x, .int .i64 x.y]) (.agg #[.int .i64 y.x, .int .i64 y.y])).run Try.prog w = .ok (.bool (decide (x = y))) w := by
  simp only [binOp]
  simp [Op.equal, Op.maxDepth, eqInPa 9998 w x y]
theorem MayG.rises {c : CfgD} {g : GraphD} (h : MayG c g) : ∀ x ∈ g.nodes, Rises x.ps x.ps.length := fun x hx => by
  obtain ⟨i, hi⟩ := List.mem_iff_getElem?.1 hx
  exact (h.nodes i x (List.getElem?_eq_some_iff.1 hi).1 hi).2.2
theorem nearOf_ok {g : GraphD} {n : Int} (h : ¬ atOf g.nodes n < 0) : nearOf g n = (nearO g.edges n, nearI g.edges n, 0) := by unfold nearOf; rw [if_neg h]
theorem nearOf_no {g : GraphD} {n : Int} (h : atOf g.nodes n < 0) : nearOf g n = ([], [], 2) := by unfold nearOf; rw [if_pos h]
theorem fuseOf_cases {c : CfgD} {g : GraphD} (a b : Int) (hm : MayG c g) (hf : g.few) : (fuseOf g a b = (GraphD.zero, 5) ∧ a = b) ∨ (fuseOf g a b = (GraphD.zero, 2) ∧ a ≠ b) ∨ (∃ h, fuseOf g a b = (h, 0) ∧ a ≠ b ∧ ¬ atOf g.nodes a < 0 ∧ ¬ atOf g.nodes b < 0 ∧ FuseLaw g h a b ∧ h.small ∧ (getOf h a).1.length ≤ 200) := by
  unfold fuseOf
  by_cases hab : a = b
  · exact .inl ⟨by rw [if_pos hab], hab⟩
  rw [if_neg hab]
  by_cases hn : atOf g.nodes a < 0 ∨ atOf g.nodes b < 0
  · exact .inr (.inl ⟨by rw [if_pos hn], hab⟩)
  rw [if_neg hn]
  have ha : ¬ atOf g.nodes a < 0 := fun e => hn (.inl e)
  have hb : ¬ atOf g.nodes b < 0 := fun e => hn (.inr e)
  have hl := fuse_law (asc_of (ascN hm.nodes)) hf.2.2 hab ha hb
  refine .inr (.inr ⟨_, rfl, hab, ha, hb, hl, ⟨?_, ?_, ?_⟩, ?_⟩)
  · have := hl.ln
    have := hf.1
    omega
  · have := hl.le
    have := hf.2.1
    omega
  · intro x hx
    have := hl.rs x hx
    omega
  · obtain ⟨i, x, hi, hx, _⟩ := atOf_at (xs := ((setN g.nodes a (fuseP (getOf g a).1 (getOf g b).1)).filter fun x => !(x.id == b))) (n := a) (by have := hl.ata; simp only at this; omega)
    rw [getOf_some (g := ⟨(setN g.nodes a (fuseP (getOf g a).1 (getOf g b).1)).filter (fun x => !(x.id == b)), g.edges.map (subE a b), g.nn, g.ne⟩) hi hx]
    exact hl.rs x (List.mem_of_getElem? hx)
set_option maxRecDepth 100000 in
set_option maxHeartbeats 8000000 in
theorem graphFuses_walk (w : World) (c : CfgD) (g : GraphD) (vn ve : Value) (hg : Gr w (fun _ => True) g vn ve) (a b k : Int) : Calls Try.prog 4 #[c.val, .agg #[vn, ve, .int .i64 g.nn, .int .i64 g.ne], .int .i64 a, .int .i64 b, .int .i64 k] w fun e w' => e = .returned (.bool true) ∧ Below w.heap.size w w' := by
  obtain ⟨⟨A1, c1, rfl⟩, ⟨A2, c2, rfl⟩⟩ := hg.slices
  have hW0 : Below w.heap.size w ((w.alloc (.cells #[.int .i64 c.nodes, .int .i64 c.edges, .int .i64 c.props, .int .i64 c.ids, .int .i64 c.eids] 23)).alloc (.cells #[.slice A1 g.nodes.length c1, .slice A2 g.edges.length c2, .int .i64 g.nn, .int .i64 g.ne] 27)) := ((Below.refl w.heap.size w).alloc (Nat.le_refl _) _).alloc (by simp) _
  have KW := Lib.hid hW0
  have H0 := Lib.hid (hg.below hW0)
  have BX := Lib.hid (Box4.made (w.alloc (.cells #[.int .i64 c.nodes, .int .i64 c.edges, .int .i64 c.props, .int .i64 c.ids, .int .i64 c.eids] 23)) 27 (.slice A1 g.nodes.length c1) (.slice A2 g.edges.length c2) (.int .i64 g.nn) (.int .i64 g.ne))
  clear hW0 hg
  simp only [World.size_alloc] at BX
  unfold CfgD.val
  go_enter Try.func4, Try.ntmps4
  go_wp2_with fail
  refine (live_calls _).mono ?_
  rintro e w1 ⟨rfl, hb1⟩
  have s1 := hb1.size
  have hc1 := (bcell hb1).1
  have K1 := Lib.hid (KW.out.trans (hb1.mono (by simp; omega)))
  have H1 := Lib.hid (H0.out.below hb1)
  have BX1 := Lib.hid (BX.out.keep (hb1.block _ (by simp)))
  clear hb1 KW H0 BX
  simp only [World.size_alloc] at s1 hc1
  have g1 : w.heap.size < w.heap.size + 1 + 1 := by omega
  have g2 : w.heap.size + 1 < w.heap.size + 1 + 1 := by omega
  go_wp2_with fail
  refine (may_calls _ _ c g _ _ H1.out).mono ?_
  rintro e w1' ⟨b0, rfl, hmay, hb1⟩
  have s1' := hb1.size
  have K1 := Lib.hid (K1.out.trans (hb1.mono K1.out.size))
  have H1 := Lib.hid (H1.out.below hb1)
  have BX1 := Lib.hid (BX1.out.keep (hb1.block _ (by omega)))
  clear hb1 hc1
  cases b0
  · go_wp2
    go_ret
    exact ⟨rfl, K1.out⟩
  obtain ⟨hf, hm⟩ := hmay rfl
  have HM := Lib.hid hm
  have HF := Lib.hid hf
  have hf1 := hf.1
  have hf2 := hf.2.1
  have hn6 : g.nodes.length ≤ 1000000 := by omega
  have he6 : g.edges.length ≤ 1000000 := by omega
  clear hmay hf hm
  have q1 : w.heap.size + 1 < w1'.heap.size := by omega
  obtain ⟨x0, x1, x2, x3, xf⟩ := BX1.out
  go_wp2_with fail
  refine (fuse_calls _ _ g _ _ a b H1.out HF.out.small HM.out.rises HF.out.2.2).mono ?_
  rintro e w2 ⟨vh, vhe, rfl, hgh, hb2⟩
  have s2 := hb2.size
  have K2 := Lib.hid (K1.out.trans (hb2.mono K1.out.size))
  have H2 := Lib.hid (H1.out.below hb2)
  have BX2 := Lib.hid (BX1.out.keep (hb2.block _ (by omega)))
  clear hb2 x0 x1 x2 x3 xf
  rcases fuseOf_cases a b HM.out HF.out with ⟨h1, h2⟩ | ⟨h1, h2⟩ | ⟨h, h1, h2, h3, h4, h5, h6, h7⟩
  · rw [h1] at hgh ⊢
    obtain ⟨⟨A3, c3, rfl⟩, ⟨A4, c4, rfl⟩⟩ := hgh.slices
    replace h2 : (a == b) = true := beq_iff_eq.mpr h2
    clear hgh
    simp only [GraphD.zero, List.length_nil]
    go_wp2
    go_ret
    exact ⟨rfl, K2.out.alloc K2.out.size _⟩
  · rw [h1] at hgh ⊢
    obtain ⟨⟨A3, c3, rfl⟩, ⟨A4, c4, rfl⟩⟩ := hgh.slices
    replace h2 : (a == b) = false := beq_eq_false_iff_ne.mpr h2
    clear hgh
    simp only [GraphD.zero, List.length_nil]
    go_wp2
    go_ret
    exact ⟨rfl, K2.out.alloc K2.out.size _⟩
  rw [h1] at hgh ⊢
  simp only at hgh
  obtain ⟨⟨A3, c3, rfl⟩, ⟨A4, c4, rfl⟩⟩ := hgh.slices
  have HL := Lib.hid h5
  have HS := Lib.hid h6
  have HG7 := Lib.hid h7
  have hhn := h6.1
  have hhe := h6.2.1
  have q2 : w.heap.size + 1 < w2.heap.size + 1 := by omega
  have r2 : w2.heap.size < w2.heap.size + 1 := by omega
  have KB := Lib.hid (Below.heap1 w2 (.cells #[.slice A3 h.nodes.length c3, .slice A4 h.edges.length c4, .int .i64 h.nn, .int .i64 h.ne] 27))
  have KA := Lib.hid (K2.out.trans (KB.out.mono K2.out.size))
  have HA := Lib.hid (H2.out.below KB.out)
  have GA := Lib.hid (hgh.below KB.out)
  have BXA := Lib.hid (BX2.out.keep (KB.out.block _ (by omega)))
  have BHA := Lib.hid (Box4.made w2 27 (.slice A3 h.nodes.length c3) (.slice A4 h.edges.length c4) (.int .i64 h.nn) (.int .i64 h.ne))
  have N3 := Lib.hid (nearOf_ok h3)
  have N4 := Lib.hid (nearOf_ok h4)
  have N5 := Lib.hid (nearOf_ok (g := h) (n := a) (by have := h5.ata; omega))
  have N6 := Lib.hid (nearOf_no h5.atb)
  clear hgh h5 h6 h7 h1 h2 h3 h4
  obtain ⟨x0, x1, x2, x3, xf⟩ := BXA.out
  obtain ⟨y0, y1, y2, y3, yf⟩ := BHA.out
  simp only
  go_wp2_with fail
  refine (near_calls _ _ g _ _ a HA.out hn6 he6).mono ?_
  rw [N3.out]
  rintro e w3 ⟨vo3, vi3, rfl, hro, hri, hb⟩
  obtain ⟨Ao3, co3, rfl⟩ := hro.slice
  obtain ⟨Ai3, ci3, rfl⟩ := hri.slice
  have s3 := hb.size
  try simp only [World.size_alloc] at s3
  have K3 := Lib.hid (KA.out.trans (hb.mono KA.out.size))
  have H3 := Lib.hid (HA.out.below hb)
  have G3 := Lib.hid (GA.out.below hb)
  have BX3 := Lib.hid (BXA.out.keep (hb.block _ (by first | omega | (simp; omega) | simp)))
  have BH3 := Lib.hid (BHA.out.keep (hb.block _ (by first | omega | (simp; omega) | simp)))
  clear hro hri hb x0 x1 x2 x3 xf y0 y1 y2 y3 yf
  obtain ⟨x0, x1, x2, x3, xf⟩ := BX3.out
  obtain ⟨y0, y1, y2, y3, yf⟩ := BH3.out
  have q3 : w.heap.size + 1 < w3.heap.size := by omega
  have r3 : w2.heap.size < w3.heap.size := by omega
  go_wp2_with fail
  refine (near_calls _ _ g _ _ b H3.out hn6 he6).mono ?_
  rw [N4.out]
  rintro e w4 ⟨vo4, vi4, rfl, hro, hri, hb⟩
  obtain ⟨Ao4, co4, rfl⟩ := hro.slice
  obtain ⟨Ai4, ci4, rfl⟩ := hri.slice
  have s4 := hb.size
  try simp only [World.size_alloc] at s4
  have K4 := Lib.hid (K3.out.trans (hb.mono K3.out.size))
  have H4 := Lib.hid (H3.out.below hb)
  have G4 := Lib.hid (G3.out.below hb)
  have BX4 := Lib.hid (BX3.out.keep (hb.block _ (by first | omega | (simp; omega) | simp)))
  have BH4 := Lib.hid (BH3.out.keep (hb.block _ (by first | omega | (simp; omega) | simp)))
  clear hro hri hb x0 x1 x2 x3 xf y0 y1 y2 y3 yf
  obtain ⟨x0, x1, x2, x3, xf⟩ := BX4.out
  obtain ⟨y0, y1, y2, y3, yf⟩ := BH4.out
  have q4 : w.heap.size + 1 < w4.heap.size := by omega
  have r4 : w2.heap.size < w4.heap.size := by omega
  go_wp2_with fail
  refine (near_calls _ _ h _ _ a G4.out hhn hhe).mono ?_
  rw [N5.out]
  rintro e w5 ⟨vo5, vi5, rfl, hro, hri, hb⟩
  obtain ⟨Ao5, co5, rfl⟩ := hro.slice
  obtain ⟨Ai5, ci5, rfl⟩ := hri.slice
  have s5 := hb.size
  try simp only [World.size_alloc] at s5
  have K5 := Lib.hid (K4.out.trans (hb.mono K4.out.size))
  have H5 := Lib.hid (H4.out.below hb)
  have G5 := Lib.hid (G4.out.below hb)
  have BX5 := Lib.hid (BX4.out.keep (hb.block _ (by first | omega | (simp; omega) | simp)))
  have BH5 := Lib.hid (BH4.out.keep (hb.block _ (by first | omega | (simp; omega) | simp)))
  clear hro hri hb x0 x1 x2 x3 xf y0 y1 y2 y3 yf
  obtain ⟨x0, x1, x2, x3, xf⟩ := BX5.out
  obtain ⟨y0, y1, y2, y3, yf⟩ := BH5.out
  have q5 : w.heap.size + 1 < w5.heap.size := by omega
  have r5 : w2.heap.size < w5.heap.size := by omega
  go_wp2_with fail
  refine (near_calls _ _ h _ _ b G5.out hhn hhe).mono ?_
  rw [N6.out]
  rintro e w6 ⟨vo6, vi6, rfl, hro, hri, hb⟩
  obtain ⟨Ao6, co6, rfl⟩ := hro.slice
  obtain ⟨Ai6, ci6, rfl⟩ := hri.slice
  have s6 := hb.size
  try simp only [World.size_alloc] at s6
  have K6 := Lib.hid (K5.out.trans (hb.mono K5.out.size))
  have H6 := Lib.hid (H5.out.below hb)
  have G6 := Lib.hid (G5.out.below hb)
  have BX6 := Lib.hid (BX5.out.keep (hb.block _ (by first | omega | (simp; omega) | simp)))
  have BH6 := Lib.hid (BH5.out.keep (hb.block _ (by first | omega | (simp; omega) | simp)))
  clear hro hri hb x0 x1 x2 x3 xf y0 y1 y2 y3 yf
  obtain ⟨x0, x1, x2, x3, xf⟩ := BX6.out
  obtain ⟨y0, y1, y2, y3, yf⟩ := BH6.out
  have q6 : w.heap.size + 1 < w6.heap.size := by omega
  have r6 : w2.heap.size < w6.heap.size := by omega
  have hl1 := nearO_len g.edges g.edges.length a
  have hl2 := nearO_len g.edges g.edges.length b
  have hl3 := nearI_len g.edges g.edges.length a
  have hl4 := nearI_len g.edges g.edges.length b
  rw [List.take_length] at hl1 hl2 hl3 hl4
  rw [HL.out.le] at y1
  have e0 : g.nodes.length = h.nodes.length + 1 := HL.out.ln.symm
  rw [e0] at x0
  rw [HL.out.o, HL.out.n]
  clear e0
  generalize (nearO g.edges a).length = L1 at *
  generalize (nearO g.edges b).length = L2 at *
  generalize (nearI g.edges a).length = L3 at *
  generalize (nearI g.edges b).length = L4 at *
  go_wp2_with fail
  clear x0 x1 x2 x3 xf y0 y1 y2 y3 yf
  obtain ⟨x0, x1, x2, x3, xf⟩ := BX6.out
  obtain ⟨y0, y1, y2, y3, yf⟩ := BH6.out
  refine wp_region_schedK (fun _ => True) [(0, true), (1, true), (2, true), (4, true), (5, true), (6, true), (3, false), (7, false), (8, true), (9, true), (10, true), (11, true), (12, false), (13, true), (14, true)] (by kernel_rfl) (by kernel_rfl) (fun hS => ?_)
  have HK := Lib.hid hS
  clear hS
  repeat (refine sched_take (v := ?_) (by simp only [List.getElem?_toArray, List.getElem?_cons_succ, List.getElem?_cons_zero]; rfl) (Or.inl ⟨by rfl, fun W hW => ?_⟩) HK.out ?_; rotate_left; (have hc := fun b o hb => hW.cell b o trivial hb; clear hW; go_simp; with_reducible rfl); simp only [Act.put, List.setIfInBounds_toArray, List.set_cons_zero, List.set_cons_succ])
  refine sched_step (by simp only [List.getElem?_toArray, List.getElem?_cons_succ, List.getElem?_cons_zero]; rfl) ?_
  go_wp2_with fail
  refine (has_calls _ _ h _ _ a k (G6.out.below (Below.refl w6.heap.size w6).drew) HS.out).mono ?_
  rintro e w7 ⟨b1, rfl, hb1, hb⟩
  have s7 := hb.size
  simp only [World.size_drew] at s7
  have HK7 := Lib.hid (HK.out.below hb)
  have B7 := Lib.hid (((Below.refl w6.heap.size w6).drew).trans hb)
  have H7 := Lib.hid (H6.out.below B7.out)
  clear hb
  go_wp2_with fail
  refine sched_on HK7.out ?_
  repeat (refine sched_take (v := ?_) (by simp only [List.getElem?_toArray, List.getElem?_cons_succ, List.getElem?_cons_zero]; rfl) (Or.inl ⟨by rfl, fun W hW => ?_⟩) HK7.out ?_; rotate_left; (have hc := fun b o hb => hW.cell b o trivial hb; clear hW; go_simp; with_reducible rfl); simp only [Act.put, List.setIfInBounds_toArray, List.set_cons_zero, List.set_cons_succ])
  refine sched_step (by simp only [List.getElem?_toArray, List.getElem?_cons_succ, List.getElem?_cons_zero]; rfl) ?_
  go_wp2_with fail
  refine (has_calls _ _ g _ _ a k H7.out HF.out.small).mono ?_
  rintro e w8 ⟨b2, rfl, hb2, hb⟩
  have s8 := hb.size
  have HK8 := Lib.hid (HK7.out.below hb)
  have B8 := Lib.hid (B7.out.trans (hb.mono B7.out.size))
  have H8 := Lib.hid (H7.out.below hb)
  clear hb
  go_wp2_with fail
  refine sched_on HK8.out ?_
  cases b2
  case' true =>
    obtain rfl : b1 = true := hb1.2 ((HL.out.has k).2 (.inl (hb2.1 rfl)))
    clear hb1 hb2
    repeat (first | (refine sched_take (v := ?_) (by simp only [List.getElem?_toArray, List.getElem?_cons_succ, List.getElem?_cons_zero]; rfl) (Or.inl ⟨by rfl, fun W hW => ?_⟩) HK8.out ?_; rotate_left; (have hc := fun b o hb => hW.cell b o trivial hb; clear hW; go_simp; with_reducible rfl); simp only [Act.put, List.setIfInBounds_toArray, List.set_cons_zero, List.set_cons_succ]) | (refine sched_take (by simp only [List.getElem?_toArray, List.getElem?_cons_succ, List.getElem?_cons_zero]; rfl) (Or.inr ⟨by rfl, rfl⟩) HK8.out ?_; simp only [Act.put, List.setIfInBounds_toArray, List.set_cons_zero, List.set_cons_succ]))
    refine sched_step (by simp only [List.getElem?_toArray, List.getElem?_cons_succ, List.getElem?_cons_zero]; rfl) ?_
    go_wp2_with fail
    refine sched_on HK8.out ?_
    repeat (first | (refine sched_take (v := ?_) (by simp only [List.getElem?_toArray, List.getElem?_cons_succ, List.getElem?_cons_zero]; rfl) (Or.inl ⟨by rfl, fun W hW => ?_⟩) HK8.out ?_; rotate_left; (have hc := fun b o hb => hW.cell b o trivial hb; clear hW; go_simp; with_reducible rfl); simp only [Act.put, List.setIfInBounds_toArray, List.set_cons_zero, List.set_cons_succ]) | (refine sched_take (by simp only [List.getElem?_toArray, List.getElem?_cons_succ, List.getElem?_cons_zero]; rfl) (Or.inr ⟨by rfl, rfl⟩) HK8.out ?_; simp only [Act.put, List.setIfInBounds_toArray, List.set_cons_zero, List.set_cons_succ]))
    refine sched_done ?_
    obtain ⟨w9, rfl⟩ : ∃ w9, w9 = w8 := ⟨_, rfl⟩
    have H9 := H8
    have B9 := B8
    have s9 : w9.heap.size ≤ w9.heap.size := Nat.le_refl _
  case' false =>
    repeat (first | (refine sched_take (v := ?_) (by simp only [List.getElem?_toArray, List.getElem?_cons_succ, List.getElem?_cons_zero]; rfl) (Or.inl ⟨by rfl, fun W hW => ?_⟩) HK8.out ?_; rotate_left; (have hc := fun b o hb => hW.cell b o trivial hb; clear hW; go_simp; with_reducible rfl); simp only [Act.put, List.setIfInBounds_toArray, List.set_cons_zero, List.set_cons_succ]) | (refine sched_take (by simp only [List.getElem?_toArray, List.getElem?_cons_succ, List.getElem?_cons_zero]; rfl) (Or.inr ⟨by rfl, rfl⟩) HK8.out ?_; simp only [Act.put, List.setIfInBounds_toArray, List.set_cons_zero, List.set_cons_succ]))
    refine sched_step (by simp only [List.getElem?_toArray, List.getElem?_cons_succ, List.getElem?_cons_zero]; rfl) ?_
    go_wp2_with fail
    refine (has_calls _ _ g _ _ b k H8.out HF.out.small).mono ?_
    rintro e w9 ⟨b3, rfl, hb3, hb⟩
    have s9 := hb.size
    have HK9 := Lib.hid (HK8.out.below hb)
    have B9 := Lib.hid (B8.out.trans (hb.mono B8.out.size))
    have H9 := Lib.hid (H8.out.below hb)
    clear hb
    obtain rfl : b1 = b3 := by
      rw [Bool.eq_iff_iff, hb1, HL.out.has k, hb3]
      exact ⟨fun h => h.resolve_left (fun h => by cases hb2.2 h), .inr⟩
    clear hb1 hb2 hb3
    go_wp2_with fail
    refine sched_on HK9.out ?_
    repeat (first | (refine sched_take (v := ?_) (by simp only [List.getElem?_toArray, List.getElem?_cons_succ, List.getElem?_cons_zero]; rfl) (Or.inl ⟨by rfl, fun W hW => ?_⟩) HK9.out ?_; rotate_left; (have hc := fun b o hb => hW.cell b o trivial hb; clear hW; go_simp; with_reducible rfl); simp only [Act.put, List.setIfInBounds_toArray, List.set_cons_zero, List.set_cons_succ]) | (refine sched_take (by simp only [List.getElem?_toArray, List.getElem?_cons_succ, List.getElem?_cons_zero]; rfl) (Or.inr ⟨by rfl, rfl⟩) HK9.out ?_; simp only [Act.put, List.setIfInBounds_toArray, List.set_cons_zero, List.set_cons_succ]))
    refine sched_done ?_
  all_goals
    have K9 := Lib.hid (K6.out.trans (B9.out.mono K6.out.size))
    have G9 := Lib.hid (G6.out.below B9.out)
    have BX9 := Lib.hid (BX6.out.keep (B9.out.block _ (by omega)))
    have BH9 := Lib.hid (BH6.out.keep (B9.out.block _ (by omega)))
    clear HK x0 x1 x2 x3 xf y0 y1 y2 y3 yf
    have q9 : w.heap.size + 1 < w9.heap.size := by omega
    have r9 : w2.heap.size < w9.heap.size := by omega
    obtain ⟨x0, x1, x2, x3, xf⟩ := BX9.out
    obtain ⟨y0, y1, y2, y3, yf⟩ := BH9.out
    go_wp2_with fail
    refine (get_calls _ _ g _ _ a H9.out HF.out.small).mono ?_
    rintro e w10 ⟨vp, rfl, hop, hb⟩
    obtain ⟨AP, cp, rfl⟩ := hop.slice
    have s10 := hb.size
    have K10 := Lib.hid (K9.out.trans (hb.mono K9.out.size))
    have G10 := Lib.hid (G9.out.below hb)
    have BH10 := Lib.hid (BH9.out.keep (hb.block _ (by omega)))
    have RP := Lib.hid hop.row
    have r10 : w2.heap.size < w10.heap.size := by omega
    clear hop hb x0 x1 x2 x3 xf y0 y1 y2 y3 yf
    obtain ⟨y0, y1, y2, y3, yf⟩ := BH10.out
    have HG2 := Lib.hid (show (getOf g a).2 = 0 by
      obtain ⟨i, x, hi, hx, _⟩ := atOf_at (xs := g.nodes) (n := a) (by have := N3.out; unfold nearOf at this; intro h; rw [if_pos h] at this; simp at this)
      rw [getOf_some hi hx])
    rw [HG2.out]
    go_wp2_with fail
    refine (get_calls _ _ h _ _ a G10.out HS.out).mono ?_
    rintro e w11 ⟨vq, rfl, hoq, hb⟩
    obtain ⟨AQ, cq, rfl⟩ := hoq.slice
    have s11 := hb.size
    have K11 := Lib.hid (K10.out.trans (hb.mono K10.out.size))
    have RP11 := Lib.hid (RP.out.below hb)
    have RQ := Lib.hid hoq.row
    clear hoq hb y0 y1 y2 y3 yf
    rw [HL.out.get.1]
    have HSUB := Lib.hid HL.out.get.2
    have hlp : (getOf g a).1.length ≤ 1000000 := by
      have := RP.out.len
      by_cases ha : atOf g.nodes a < 0
      · rw [getOf_none ha]; simp
      · obtain ⟨i, x, hi, hx, _⟩ := atOf_at ha
        rw [getOf_some hi hx]
        have := HF.out.2.2 x (List.mem_of_getElem? hx)
        simp only
        omega
    have hlq : (getOf h a).1.length ≤ 1000000 := by have := HG7.out; omega
    clear HK7 HK8 RP
    generalize (getOf g a).1 = P at *
    generalize (getOf h a).1 = Q at *
    go_wp2
    go_loopw [177] (fun p wr => ∃ j : Nat, j ≤ P.length ∧ p = .int .i64 (j : Int) ∧ Hid (Below w11.heap.size w11 wr)) (fun p _ => P.length - (intOf p).toNat)
    case atStart => exact ⟨0, by omega, rfl, Below.refl _ _⟩
    case round =>
      obtain ⟨wa, rfl⟩ : ∃ wa, wa = wr := ⟨wr, rfl⟩
      obtain ⟨j, hj, rfl, hb⟩ := hrel
      have hwa := hb.out.size
      by_cases hlt : j < P.length
      case neg =>
        obtain rfl : j = P.length := by omega
        go_wp2
        go_ret
        exact ⟨rfl, K11.out.trans (hb.out.mono K11.out.size)⟩
      obtain ⟨y, hy⟩ := getElem?_of_lt hlt
      obtain ⟨by', oy, hAy, _, hbyl, z0, z1⟩ := (RP11.out.below hb.out).atP hy
      have HYQ := Lib.hid (HSUB.out y (List.mem_of_getElem? hy))
      subst hAy
      clear hy
      have u1 : wa.heap.size < wa.heap.size + 1 := by omega
      have u2 : by' < wa.heap.size + 1 := by omega
      go_wp2
      clear z0 z1
      go_loopw [31, 183] (fun t p wr => ∃ m : Nat, m ≤ Q.length ∧ p = .int .i64 (m : Int) ∧ t = .bool (decide (y ∈ Q.take m)) ∧ Hid (Below (wa.alloc (.cells #[.int .i64 y.x, .int .i64 y.y] 47)).heap.size (wa.alloc (.cells #[.int .i64 y.x, .int .i64 y.y] 47)) wr)) (fun _ p _ => Q.length - (intOf p).toNat)
      case atStart => exact ⟨0, by omega, rfl, by simp, Below.refl _ _⟩
      case round =>
        obtain ⟨wb, rfl⟩ : ∃ wb, wb = wr := ⟨wr, rfl⟩
        obtain ⟨m, hm, rfl, rfl, hbm⟩ := hrel
        have hsm := hbm.out.size
        have hcm := (bcell hbm.out).1
        simp only [World.size_alloc] at hsm hcm
        have v1 : wa.heap.size < wb.heap.size := by omega
        by_cases hml : m < Q.length
        case neg =>
          obtain rfl : m = Q.length := by omega
          have hall : decide (y ∈ Q.take Q.length) = true := by rw [List.take_length]; exact decide_eq_true HYQ.out
          rw [hall]
          have KN := Lib.hid (hb.out.trans ((Below.heap1 wa (.cells #[.int .i64 y.x, .int .i64 y.y] 47)).mono hwa |>.trans (hbm.out.mono (by simp; omega))))
          clear hall hcm
          go_wp2
          go_roundw
          case rel => exact ⟨j + 1, by omega, by first | (go_num; done) | (go_num; omega), KN⟩
          case measure => simp [intOf]; omega
        obtain ⟨z, hz⟩ := getElem?_of_lt hml
        obtain ⟨bz, oz, hAz, _, hbzl, z0, z1⟩ := (((RQ.out.below hb.out).below (Below.heap1 wa (.cells #[.int .i64 y.x, .int .i64 y.y] 47))).below hbm.out).atP hz
        have HST := Lib.hid (show decide (y ∈ Q.take (m + 1)) = (decide (y ∈ Q.take m) || decide (y = z)) by
          rw [List.take_add_one, hz, Option.toList_some, Bool.eq_iff_iff]
          simp)
        subst hAz
        clear hz
        have v2 : wb.heap.size < wb.heap.size + 1 := by omega
        have v3 : bz < wb.heap.size + 1 := by omega
        have v4 : wa.heap.size < wb.heap.size + 1 := by omega
        have heq := fun W : World => eqlPa W y z
        generalize decide (y = z) = bq at *
        generalize decide (y ∈ Q.take m) = bm at *
        have KM := Lib.hid (hbm.out.alloc (by simp; omega) (.cells #[.int .i64 z.x, .int .i64 z.y] 47))
        cases bm
        · go_wp2
          go_roundw
          case rel => exact ⟨m + 1, by omega, by first | (go_num; done) | (go_num; omega), by rw [HST.out]; rfl, KM⟩
          case measure => simp [intOf]; omega
        · go_wp2
          go_roundw
          case rel => exact ⟨m + 1, by omega, by first | (go_num; done) | (go_num; omega), by rw [HST.out]; rfl, KM⟩
          case measure => simp [intOf]; omega
end Go.Proofs.Ytpehmmdbjakkpaa
