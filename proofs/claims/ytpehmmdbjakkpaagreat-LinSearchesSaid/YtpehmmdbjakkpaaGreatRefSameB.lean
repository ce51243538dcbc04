/- The reference's Same: any two graphs. -/
import Derived.Test.YtpehmmdbjakkpaaGreatSameB
import Derived.Test.YtpehmmdbjakkpaaGreatSameG
namespace Go.Proofs.YtpehmmdbjakkpaaGreat
open Go.RowKit Go.Shelf
set_option linter.unusedSimpArgs false
set_option linter.unusedVariables false
set_option maxRecDepth 20000
set_option maxHeartbeats 8000000 in
theorem refSameB_calls (w : World) (S : Nat → Prop) (g h : GraphD) (vn ve un ue : Value) (hg : Gr w S g vn ve) (hh : Gr w S h un ue) : Calls Tryz.prog 9 #[.agg #[vn, ve, .int .i64 g.nn, .int .i64 g.ne], .agg #[un, ue, .int .i64 h.nn, .int .i64 h.ne]] w (BPost w (g = h)) := by
 have hm := hg.len
 have hm' := hh.len
 unfold maxLen at hm hm'
 obtain ⟨hm1, hm2⟩ := hm
 obtain ⟨hm3, hm4⟩ := hm'
 have HEQ := Lib.hid (graph_eq (g := g) (h := h))
 obtain ⟨⟨A1, c1, rfl⟩, ⟨A2, c2, rfl⟩⟩ := hg.slices
 obtain ⟨⟨A3, c3, rfl⟩, ⟨A4, c4, rfl⟩⟩ := hh.slices
 obtain ⟨n3, hn3⟩ : ∃ n, n = h.nodes.length := ⟨_, rfl⟩
 obtain ⟨n4, hn4⟩ : ∃ n, n = h.edges.length := ⟨_, rfl⟩
 rw [← hn3] at hh hm3 ⊢
 rw [← hn4] at hh hm4 ⊢
 obtain ⟨W, hW⟩ : ∃ W, W = (w.alloc (.cells #[.slice A1 g.nodes.length c1, .slice A2 g.edges.length c2, .int .i64 g.nn, .int .i64 g.ne] 31)).alloc (.cells #[.slice A3 n3 c3, .slice A4 n4 c4, .int .i64 h.nn, .int .i64 h.ne] 31) := ⟨_, rfl⟩
 have KW := Lib.hid (show Below w.heap.size w W by rw [hW]; exact ((Below.refl w.heap.size w).alloc (Nat.le_refl _) _).alloc (by simp) _)
 have BX := Lib.hid (show Box4 W w.heap.size (.slice A1 g.nodes.length c1) (.slice A2 g.edges.length c2) (.int .i64 g.nn) (.int .i64 g.ne) by
  rw [hW]
  exact (Box4.made w 31 _ _ _ _).keep (Below.heap_alloc _ _ _ (by simp)))
 have BY := Lib.hid (show Box4 W (w.heap.size + 1) (.slice A3 n3 c3) (.slice A4 n4 c4) (.int .i64 h.nn) (.int .i64 h.ne) by
  rw [hW]
  have := Box4.made (w.alloc (.cells #[.slice A1 g.nodes.length c1, .slice A2 g.edges.length c2, .int .i64 g.nn, .int .i64 g.ne] 31)) 31 (.slice A3 n3 c3) (.slice A4 n4 c4) (.int .i64 h.nn) (.int .i64 h.ne)
  rw [World.size_alloc] at this
  exact this)
 have s0 : W.heap.size = w.heap.size + 1 + 1 := by rw [hW]; simp
 have HW := Lib.hid hW
 have H := Lib.hid (hg.below KW.out)
 have H' := Lib.hid (hh.below KW.out)
 have KE := Lib.hid (HW.out ▸ KW.out)
 have HN3 := Lib.hid hn3
 have HN4 := Lib.hid hn4
 clear hg hh hW hn3 hn4
 by_cases h1 : g.nn = h.nn
 case neg =>
  have HN := Lib.hid (show ¬ g = h from fun e => h1 (HEQ.out.1 e).1)
  have hd : (g.nn != h.nn) = true := by simp [h1]
  clear h1
  go_enter Tryz.func9, Tryz.ntmps9
  go_wp2
  refine bodyPost_ret (v := .bool false) (by simp [results, Tryz.results9, go_sem]; try rfl) rfl ⟨false, rfl, ⟨fun e => (by cases e), fun h => absurd h HN.out⟩, KE.out⟩
 have hd1 : (g.nn != h.nn) = false := by simp [h1]
 by_cases h2 : g.ne = h.ne
 case neg =>
  have HN := Lib.hid (show ¬ g = h from fun e => h2 (HEQ.out.1 e).2.1)
  have hd : (g.ne != h.ne) = true := by simp [h2]
  clear h1 h2
  go_enter Tryz.func9, Tryz.ntmps9
  go_wp2
  refine bodyPost_ret (v := .bool false) (by simp [results, Tryz.results9, go_sem]; try rfl) rfl ⟨false, rfl, ⟨fun e => (by cases e), fun h => absurd h HN.out⟩, KE.out⟩
 have hd2 : (g.ne != h.ne) = false := by simp [h2]
 by_cases h3 : g.nodes.length = n3
 case neg =>
  have HN := Lib.hid (show ¬ g = h from fun e => h3 (by rw [HN3.out, e]))
  have hd : ((g.nodes.length : Int) != (n3 : Int)) = true := by simp; omega
  clear h1 h2 h3
  go_enter Tryz.func9, Tryz.ntmps9
  go_wp2
  refine bodyPost_ret (v := .bool false) (by simp [results, Tryz.results9, go_sem]; try rfl) rfl ⟨false, rfl, ⟨fun e => (by cases e), fun h => absurd h HN.out⟩, KE.out⟩
 by_cases h4 : g.edges.length = n4
 case neg =>
  have HN := Lib.hid (show ¬ g = h from fun e => h4 (by rw [HN4.out, e]))
  have hd3 : ((g.nodes.length : Int) != (n3 : Int)) = false := by simp; omega
  have hd : ((g.edges.length : Int) != (n4 : Int)) = true := by simp; omega
  clear h1 h2 h3 h4
  go_enter Tryz.func9, Tryz.ntmps9
  go_wp2
  refine bodyPost_ret (v := .bool false) (by simp [results, Tryz.results9, go_sem]; try rfl) rfl ⟨false, rfl, ⟨fun e => (by cases e), fun h => absurd h HN.out⟩, KE.out⟩
 obtain ⟨n1, hn1⟩ : ∃ n, n = g.nodes.length := ⟨_, rfl⟩
 obtain ⟨n2, hn2⟩ : ∃ n, n = g.edges.length := ⟨_, rfl⟩
 rw [← hn1] at h3 hm1 H BX ⊢
 rw [← hn2] at h4 hm2 H BX ⊢
 have HN1 := Lib.hid hn1
 have HN2 := Lib.hid hn2
 have HNN := Lib.hid (And.intro h1 h2)
 rw [← hn1, ← hn2] at HW
 clear hn1 hn2 h1 h2 KE
 subst h3 h4
 have e3 : ((n1 : Int) != (n1 : Int)) = false := by simp
 have e4 : ((n2 : Int) != (n2 : Int)) = false := by simp
 go_enter Tryz.func9, Tryz.ntmps9
 go_wp2
 rw [← HW.out]
 clear hd1 hd2 e3 e4 HW
 go_loopw [40] (fun p wr => ∃ k : Nat, k ≤ n1 ∧ p = .int .i64 (k : Int) ∧ Hid (∀ i, i < k → g.nodes[i]? = h.nodes[i]?) ∧ Hid (Below W.heap.size W wr)) (fun p _ => n1 - (intOf p).toNat)
 case atStart => exact ⟨0, by omega, rfl, (fun i h => by omega), Below.refl _ _⟩
 case round =>
  obtain ⟨wa, rfl⟩ : ∃ wa, wa = wr := ⟨wr, rfl⟩
  obtain ⟨k, hk, rfl, hse, hb⟩ := hrel
  have hwr := hb.out.size
  have BXa := Lib.hid (BX.out.keep (hb.out.block _ (by omega)))
  have BYa := Lib.hid (BY.out.keep (hb.out.block _ (by omega)))
  obtain ⟨x0, x1, x2, x3, xf⟩ := BXa.out
  obtain ⟨y0, y1, y2, y3, yf⟩ := BYa.out
  have q1 : w.heap.size < wa.heap.size := by omega
  have q2 : w.heap.size + 1 < wa.heap.size := by omega
  by_cases hlt : k < n1
  case neg =>
   obtain rfl : k = n1 := by omega
   have HND := Lib.hid (show g.nodes = h.nodes from eq_of_getElem? (by rw [← HN1.out, ← HN3.out]) fun j hj => hse.out j (by have := HN1.out; omega))
   go_wp2
   clear x0 x1 x2 x3 xf y0 y1 y2 y3 yf
   go_loopw [76] (fun p wr => ∃ m : Nat, m ≤ n2 ∧ p = .int .i64 (m : Int) ∧ Hid (∀ i, i < m → g.edges[i]? = h.edges[i]?) ∧ Hid (Below W.heap.size W wr)) (fun p _ => n2 - (intOf p).toNat)
   case atStart => exact ⟨0, by omega, rfl, (fun i h => by omega), hb⟩
   case round =>
    obtain ⟨wq, rfl⟩ : ∃ wq, wq = wr := ⟨wr, rfl⟩
    obtain ⟨m, hm, rfl, hse2, hbq⟩ := hrel
    have hsq := hbq.out.size
    have BXq := Lib.hid (BX.out.keep (hbq.out.block _ (by omega)))
    have BYq := Lib.hid (BY.out.keep (hbq.out.block _ (by omega)))
    obtain ⟨x0, x1, x2, x3, xf⟩ := BXq.out
    obtain ⟨y0, y1, y2, y3, yf⟩ := BYq.out
    have q3 : w.heap.size < wq.heap.size := by omega
    have q4 : w.heap.size + 1 < wq.heap.size := by omega
    have KQ := Lib.hid (KW.out.trans (hbq.out.mono (by omega)))
    by_cases hml : m < n2
    case neg =>
     obtain rfl : m = n2 := by omega
     have HY := Lib.hid (show g = h from HEQ.out.2 ⟨HNN.out.1, HNN.out.2, HND.out, eq_of_getElem? (by rw [← HN2.out, ← HN4.out]) fun j hj => hse2.out j (by have := HN2.out; omega)⟩)
     go_wp2
     refine bodyPost_ret (v := .bool true) (by simp [results, Tryz.results9, go_sem]; try rfl) rfl ⟨true, rfl, ⟨fun _ => HY.out, fun _ => rfl⟩, KQ.out⟩
    obtain ⟨e, he⟩ := getElem?_of_lt (show m < g.edges.length by rw [← HN2.out]; exact hml)
    obtain ⟨f, hf⟩ := getElem?_of_lt (show m < h.edges.length by rw [← HN4.out]; exact hml)
    obtain ⟨b1, o1, hB1, _, hbl1, z0, z1, z2⟩ := (H.out.below hbq.out).atE he
    obtain ⟨b2, o2, hB2, _, hbl2, t0, t1, t2⟩ := (H'.out.below hbq.out).atE hf
    subst hB1 hB2
    have HE := Lib.hid he
    have HF := Lib.hid hf
    clear he hf
    go_wp2_with fail
    refine wp_region_schedK (fun _ => True) [(0, true), (1, true), (2, true), (3, true), (4, true), (5, true), (6, true), (7, true), (8, true), (9, true), (10, true)] (by kernel_rfl) (by kernel_rfl) (fun hS => ?_)
    have HK := Lib.hid hS
    clear hS
    repeat (refine sched_take (v := ?_) (by simp only [opT, opS, opZ]; rfl) (Or.inl ⟨by rfl, fun W hW => ?_⟩) HK.out ?_; rotate_left; (have hc := fun b o hb => hW.cell b o trivial hb; clear hW; go_simp; with_reducible rfl); simp only [Act.put, putT, putZ, putS])
    first | refine sched_done ?_ | (refine sched_take (v := .bool (!decide (e = f))) (by simp only [opT, opS, opZ]; rfl) (Or.inl ⟨by rfl, fun W _ => exec_neqEdge W e f rfl rfl rfl⟩) HK.out ?_; simp only [Act.put, putT, putZ, putS]; refine sched_done ?_)
    by_cases hef : e = f
    ·
     have HS2 := Lib.hid (show ∀ i, i < m + 1 → g.edges[i]? = h.edges[i]? from fun i hi => by
      rcases Nat.lt_or_ge i m with h3 | h3
      ·
       exact hse2.out i h3
      ·
       obtain rfl : i = m := by omega
       rw [HE.out, HF.out, hef])
     rw [decide_eq_true hef]
     simp only [Bool.not_true]
     clear hef
     go_wp2
     go_roundw
     case rel => exact ⟨m + 1, by omega, by first | (go_num; done) | (go_num; omega), HS2, Lib.hid hbq.out.drew⟩
     case measure => simp [intOf]; omega
    ·
     have HN := Lib.hid (show ¬ g = h from fun eg => hef (by
      have h9 := HE.out
      rw [eg, HF.out] at h9
      injection h9 with h9
      exact h9.symm))
     rw [decide_eq_false hef]
     simp only [Bool.not_false]
     clear hef
     go_wp2
     refine bodyPost_ret (v := .bool false) (by simp [results, Tryz.results9, go_sem]; try rfl) rfl ⟨false, rfl, ⟨fun e => (by cases e), fun h => absurd h HN.out⟩, KQ.out.drew⟩
  obtain ⟨x, hx⟩ := getElem?_of_lt (show k < g.nodes.length by rw [← HN1.out]; exact hlt)
  obtain ⟨y, hy⟩ := getElem?_of_lt (show k < h.nodes.length by rw [← HN3.out]; exact hlt)
  obtain ⟨b1, o1, a1, d1, hB1, _, hbl1, hr1, z0, z1⟩ := (H.out.below hb.out).atN hx
  obtain ⟨b2, o2, a2, d2, hB2, _, hbl2, hr2, t0, t1⟩ := (H'.out.below hb.out).atN hy
  subst hB1 hB2
  have HR1 := Lib.hid hr1
  have HR2 := Lib.hid hr2
  have HX := Lib.hid hx
  have HY := Lib.hid hy
  clear hx hy hr1 hr2
  have KQ := Lib.hid (KW.out.trans (hb.out.mono (by omega)))
  go_wp2_with fail
  refine wp_region_schedK (fun _ => True) [(0, true), (1, true), (2, true), (3, true), (4, true), (5, true), (6, true), (7, true), (8, true), (9, true), (10, true), (11, true), (12, true), (13, true), (14, true), (15, true), (16, true), (17, true), (18, true), (19, true), (20, true), (21, true), (22, true), (23, true), (24, true), (25, true), (26, false), (27, true), (28, true)] (by kernel_rfl) (by kernel_rfl) (fun hS => ?_)
  have HK := Lib.hid hS
  clear hS
  by_cases hid : x.id = y.id
  case neg =>
   have HN := Lib.hid (show ¬ g = h from fun eg => hid (by
    have h9 := HX.out
    rw [eg, HY.out] at h9
    injection h9 with h9
    rw [h9]))
   have e5 : (x.id != y.id) = true := by simp [hid]
   clear hid
   repeat (first | (refine sched_take (v := ?_) (by simp only [opT, opS, opZ]; rfl) (Or.inl ⟨by rfl, fun W hW => ?_⟩) HK.out ?_; rotate_left; (have hc := fun b o hb => hW.cell b o trivial hb; clear hW; go_simp; with_reducible rfl); simp only [Act.put, putT, putZ, putS]) | (refine sched_take (by simp only [opT, opS, opZ]; rfl) (Or.inr ⟨by rfl, rfl⟩) HK.out ?_; simp only [Act.put, putT, putZ, putS]))
   refine sched_step (by simp only [opT, opS, opZ]; rfl) ?_
   go_wp2_with fail
   refine sched_on HK.out ?_
   repeat (first | (refine sched_take (v := ?_) (by simp only [opT, opS, opZ]; rfl) (Or.inl ⟨by rfl, fun W hW => ?_⟩) HK.out ?_; rotate_left; (have hc := fun b o hb => hW.cell b o trivial hb; clear hW; go_simp; with_reducible rfl); simp only [Act.put, putT, putZ, putS]) | (refine sched_take (by simp only [opT, opS, opZ]; rfl) (Or.inr ⟨by rfl, rfl⟩) HK.out ?_; simp only [Act.put, putT, putZ, putS]))
   refine sched_done ?_
   clear HK
   go_wp2
   refine bodyPost_ret (v := .bool false) (by simp [results, Tryz.results9, go_sem]; try rfl) rfl ⟨false, rfl, ⟨fun e => (by cases e), fun h => absurd h HN.out⟩, KQ.out.drew⟩
  have e5 : (x.id != y.id) = false := by simp [hid]
  have HID := Lib.hid hid
  clear hid
  repeat (first | (refine sched_take (v := ?_) (by simp only [opT, opS, opZ]; rfl) (Or.inl ⟨by rfl, fun W hW => ?_⟩) HK.out ?_; rotate_left; (have hc := fun b o hb => hW.cell b o trivial hb; clear hW; go_simp; with_reducible rfl); simp only [Act.put, putT, putZ, putS]) | (refine sched_take (by simp only [opT, opS, opZ]; rfl) (Or.inr ⟨by rfl, rfl⟩) HK.out ?_; simp only [Act.put, putT, putZ, putS]))
  refine sched_step (by simp only [opT, opS, opZ]; rfl) ?_
  go_wp2_with fail
  refine (samePairs_calls _ S _ _ x.ps y.ps (HR1.out.below (Below.refl wa.heap.size wa).drew) (HR2.out.below (Below.refl wa.heap.size wa).drew)).mono ?_
  rintro en w5 ⟨rfl, hb5⟩
  have HK5 := Lib.hid (HK.out.below hb5)
  have KA := Lib.hid (hb.out.trans (((Below.refl wa.heap.size wa).drew.trans hb5).mono hwr))
  clear hb5 x0 x1 x2 x3 xf y0 y1 y2 y3 yf z0 z1 t0 t1
  by_cases hps : x.ps = y.ps
  ·
   have HS2 := Lib.hid (show ∀ i, i < k + 1 → g.nodes[i]? = h.nodes[i]? from fun i hi => by
    rcases Nat.lt_or_ge i k with h3 | h3
    ·
     exact hse.out i h3
    ·
     obtain rfl : i = k := by omega
     have e9 : x = y := by
      have h9 := HID.out
      cases x
      cases y
      simp only at h9 hps
      rw [h9, hps]
     rw [HX.out, HY.out, e9])
   rw [decide_eq_true hps]
   clear hps
   go_wp2_with fail
   refine sched_on HK5.out ?_
   repeat (first | (refine sched_take (v := ?_) (by simp only [opT, opS, opZ]; rfl) (Or.inl ⟨by rfl, fun W hW => ?_⟩) HK5.out ?_; rotate_left; (have hc := fun b o hb => hW.cell b o trivial hb; clear hW; go_simp; with_reducible rfl); simp only [Act.put, putT, putZ, putS]) | (refine sched_take (by simp only [opT, opS, opZ]; rfl) (Or.inr ⟨by rfl, rfl⟩) HK5.out ?_; simp only [Act.put, putT, putZ, putS]))
   refine sched_done ?_
   clear HK HK5
   go_wp2
   go_roundw
   case rel => exact ⟨k + 1, by omega, by first | (go_num; done) | (go_num; omega), HS2, KA⟩
   case measure => simp [intOf]; omega
  ·
   have HN := Lib.hid (show ¬ g = h from fun eg => hps (by
    have h9 := HX.out
    rw [eg, HY.out] at h9
    injection h9 with h9
    rw [h9]))
   rw [decide_eq_false hps]
   clear hps
   have KE := Lib.hid (KW.out.trans (KA.out.mono (by omega)))
   go_wp2_with fail
   refine sched_on HK5.out ?_
   repeat (first | (refine sched_take (v := ?_) (by simp only [opT, opS, opZ]; rfl) (Or.inl ⟨by rfl, fun W hW => ?_⟩) HK5.out ?_; rotate_left; (have hc := fun b o hb => hW.cell b o trivial hb; clear hW; go_simp; with_reducible rfl); simp only [Act.put, putT, putZ, putS]) | (refine sched_take (by simp only [opT, opS, opZ]; rfl) (Or.inr ⟨by rfl, rfl⟩) HK5.out ?_; simp only [Act.put, putT, putZ, putS]))
   refine sched_done ?_
   clear HK HK5
   go_wp2
   refine bodyPost_ret (v := .bool false) (by simp [results, Tryz.results9, go_sem]; try rfl) rfl ⟨false, rfl, ⟨fun e => (by cases e), fun h => absurd h HN.out⟩, KE.out⟩

end Go.Proofs.YtpehmmdbjakkpaaGreat
