/- The reference's Same, of two graphs that are the same. -/
import Derived.Test.YtpehmmdbjakkpaaGetM
import Derived.Test.YtpehmmdbjakkpaaEqM
namespace Go.Proofs.Ytpehmmdbjakkpaa
open Go.RowKit Go.Shelf
set_option linter.unusedSimpArgs false
set_option linter.unusedVariables false
set_option maxRecDepth 20000
set_option maxHeartbeats 8000000 in
theorem refSame_calls (w : World) (S : Nat → Prop) (g : GraphD) (vn ve vn' ve' : Value) (h : Gr w S g vn ve) (h' : Gr w S g vn' ve') : Calls Try.prog 29 #[.agg #[vn, ve, .int .i64 g.nn, .int .i64 g.ne], .agg #[vn', ve', .int .i64 g.nn, .int .i64 g.ne]] w fun e w' => e = .returned (.bool true) ∧ Below w.heap.size w w' := by
  have hm := h.len
  unfold maxLen at hm
  obtain ⟨hm1, hm2⟩ := hm
  obtain ⟨⟨A1, c1, rfl⟩, ⟨A2, c2, rfl⟩⟩ := h.slices
  obtain ⟨⟨A3, c3, rfl⟩, ⟨A4, c4, rfl⟩⟩ := h'.slices
  have hW0 : Below w.heap.size w ((w.alloc (.cells #[.slice A1 g.nodes.length c1, .slice A2 g.edges.length c2, .int .i64 g.nn, .int .i64 g.ne] 27)).alloc (.cells #[.slice A3 g.nodes.length c3, .slice A4 g.edges.length c4, .int .i64 g.nn, .int .i64 g.ne] 27)) := ((Below.refl w.heap.size w).alloc (Nat.le_refl _) _).alloc (by simp) _
  have KW := Lib.hid hW0
  have H := Lib.hid (h.below hW0)
  have H' := Lib.hid (h'.below hW0)
  have BX := Lib.hid ((Box4.made w 27 (.slice A1 g.nodes.length c1) (.slice A2 g.edges.length c2) (.int .i64 g.nn) (.int .i64 g.ne)).keep (W' := (w.alloc (.cells #[.slice A1 g.nodes.length c1, .slice A2 g.edges.length c2, .int .i64 g.nn, .int .i64 g.ne] 27)).alloc (.cells #[.slice A3 g.nodes.length c3, .slice A4 g.edges.length c4, .int .i64 g.nn, .int .i64 g.ne] 27)) (Below.heap_alloc _ _ _ (by simp)))
  have BY := Lib.hid (Box4.made (w.alloc (.cells #[.slice A1 g.nodes.length c1, .slice A2 g.edges.length c2, .int .i64 g.nn, .int .i64 g.ne] 27)) 27 (.slice A3 g.nodes.length c3) (.slice A4 g.edges.length c4) (.int .i64 g.nn) (.int .i64 g.ne))
  have e1 : (g.nn != g.nn) = false := by simp
  have e2 : (g.ne != g.ne) = false := by simp
  have e3 : ((g.nodes.length : Int) != (g.nodes.length : Int)) = false := by simp
  have e4 : ((g.edges.length : Int) != (g.edges.length : Int)) = false := by simp
  clear h h' hW0
  simp only [World.size_alloc] at BY
  go_enter Try.func29, Try.ntmps29
  go_wp2
  obtain ⟨W, hW⟩ : ∃ W, W = (w.alloc (.cells #[.slice A1 g.nodes.length c1, .slice A2 g.edges.length c2, .int .i64 g.nn, .int .i64 g.ne] 27)).alloc (.cells #[.slice A3 g.nodes.length c3, .slice A4 g.edges.length c4, .int .i64 g.nn, .int .i64 g.ne] 27) := ⟨_, rfl⟩
  have sW : W.heap.size = w.heap.size + 1 + 1 := by rw [hW]; simp
  rw [← hW] at H H' BX BY KW ⊢
  clear hW e1 e2 e3 e4
  go_loopw [40] (fun p wr => ∃ k : Nat, k ≤ g.nodes.length ∧ p = .int .i64 (k : Int) ∧ Hid (Below W.heap.size W wr)) (fun p _ => g.nodes.length - (intOf p).toNat)
  case atStart => exact ⟨0, by omega, rfl, Below.refl _ _⟩
  case round =>
    obtain ⟨wa, rfl⟩ : ∃ wa, wa = wr := ⟨wr, rfl⟩
    obtain ⟨k, hk, rfl, hb⟩ := hrel
    have hwr := hb.out.size
    have BXa := Lib.hid (BX.out.keep (hb.out.block _ (by omega)))
    have BYa := Lib.hid (BY.out.keep (hb.out.block _ (by omega)))
    obtain ⟨x0, x1, x2, x3, xf⟩ := BXa.out
    obtain ⟨y0, y1, y2, y3, yf⟩ := BYa.out
    have q1 : w.heap.size < wa.heap.size := by omega
    have q2 : w.heap.size + 1 < wa.heap.size := by omega
    by_cases hlt : k < g.nodes.length
    case neg =>
      obtain rfl : k = g.nodes.length := by omega
      go_wp2
      clear x0 x1 x2 x3 xf y0 y1 y2 y3 yf
      go_loopw [76] (fun p wr => ∃ m : Nat, m ≤ g.edges.length ∧ p = .int .i64 (m : Int) ∧ Hid (Below W.heap.size W wr)) (fun p _ => g.edges.length - (intOf p).toNat)
      case atStart => exact ⟨0, by omega, rfl, hb⟩
      case round =>
        obtain ⟨wq, rfl⟩ : ∃ wq, wq = wr := ⟨wr, rfl⟩
        obtain ⟨m, hm, rfl, hbq⟩ := hrel
        have hsq := hbq.out.size
        have BXq := Lib.hid (BX.out.keep (hbq.out.block _ (by omega)))
        have BYq := Lib.hid (BY.out.keep (hbq.out.block _ (by omega)))
        obtain ⟨x0, x1, x2, x3, xf⟩ := BXq.out
        obtain ⟨y0, y1, y2, y3, yf⟩ := BYq.out
        have q3 : w.heap.size < wq.heap.size := by omega
        have q4 : w.heap.size + 1 < wq.heap.size := by omega
        have KQ := Lib.hid (KW.out.trans (hbq.out.mono (by omega)))
        by_cases hml : m < g.edges.length
        case neg =>
          go_wp2
          go_ret
          exact ⟨rfl, KQ.out⟩
        obtain ⟨e, he⟩ := getElem?_of_lt hml
        obtain ⟨b1, o1, rfl, _, hbl1, z0, z1, z2⟩ := (H.out.below hbq.out).atE he
        obtain ⟨b2, o2, rfl, _, hbl2, t0, t1, t2⟩ := (H'.out.below hbq.out).atE he
        clear he
        go_wp2_with fail
        refine wp_region_schedK (fun _ => True) [(0, true), (1, true), (2, true), (3, true), (4, true), (5, true), (6, true), (7, true), (8, true), (9, true), (10, true)] (by kernel_rfl) (by kernel_rfl) (fun hS => ?_)
        have HK := Lib.hid hS
        clear hS
        repeat (refine sched_take (v := ?_) (by simp only [List.getElem?_toArray, List.getElem?_cons_succ, List.getElem?_cons_zero]; rfl) (Or.inl ⟨by rfl, fun W hW => ?_⟩) HK.out ?_; rotate_left; (have hc := fun b o hb => hW.cell b o trivial hb; clear hW; go_simp; with_reducible rfl); simp only [Act.put, List.setIfInBounds_toArray, List.set_cons_zero, List.set_cons_succ])
        first | refine sched_done ?_ | (refine sched_take (v := .bool (!decide (e = e))) (by simp only [List.getElem?_toArray, List.getElem?_cons_succ, List.getElem?_cons_zero]; rfl) (Or.inl ⟨by rfl, fun W _ => exec_neqEdge W e e rfl rfl rfl⟩) HK.out ?_; simp only [Act.put, List.setIfInBounds_toArray, List.set_cons_zero, List.set_cons_succ]; rw [decide_eq_true rfl]; simp only [Bool.not_true]; refine sched_done ?_)
        go_wp2
        go_roundw
        case rel => exact ⟨m + 1, by omega, by first | (go_num; done) | (go_num; omega), Lib.hid hbq.out.drew⟩
        case measure => simp [intOf]; omega
    obtain ⟨x, hx⟩ := getElem?_of_lt hlt
    obtain ⟨b1, o1, a1, d1, rfl, _, hbl1, hr1, z0, z1⟩ := (H.out.below hb.out).atN hx
    obtain ⟨b2, o2, a2, d2, rfl, _, hbl2, hr2, t0, t1⟩ := (H'.out.below hb.out).atN hx
    have HR1 := Lib.hid hr1
    have HR2 := Lib.hid hr2
    have e5 : (x.id != x.id) = false := by simp
    clear hx hr1 hr2
    go_wp2_with fail
    refine wp_region_schedK (fun _ => True) [(0, true), (1, true), (2, true), (3, true), (4, true), (5, true), (6, true), (7, true), (8, true), (9, true), (10, true), (11, true), (12, true), (13, true), (14, true), (15, true), (16, true), (17, true), (18, true), (19, true), (20, true), (21, true), (22, true), (23, true), (24, true), (25, true), (26, false), (27, true), (28, true)] (by kernel_rfl) (by kernel_rfl) (fun hS => ?_)
    have HK := Lib.hid hS
    clear hS
    repeat (refine sched_take (v := ?_) (by simp only [List.getElem?_toArray, List.getElem?_cons_succ, List.getElem?_cons_zero]; rfl) (Or.inl ⟨by rfl, fun W hW => ?_⟩) HK.out ?_; rotate_left; (have hc := fun b o hb => hW.cell b o trivial hb; clear hW; go_simp; with_reducible rfl); simp only [Act.put, List.setIfInBounds_toArray, List.set_cons_zero, List.set_cons_succ])
    refine sched_step (by simp only [List.getElem?_toArray, List.getElem?_cons_succ, List.getElem?_cons_zero]; rfl) ?_
    go_wp2_with fail
    refine (samePairs_calls _ S _ _ x.ps x.ps (HR1.out.below (Below.refl _ _).drew) (HR2.out.below (Below.refl _ _).drew)).mono ?_
    rintro en w5 ⟨rfl, hb5⟩
    rw [decide_eq_true rfl]
    have HK5 := Lib.hid (HK.out.below hb5)
    have KA := Lib.hid (hb.out.trans (((Below.refl wa.heap.size wa).drew.trans hb5).mono hwr))
    clear hb5 x0 x1 x2 x3 xf y0 y1 y2 y3 yf z0 z1 t0 t1
    go_wp2_with fail
    refine sched_on HK5.out ?_
    repeat (refine sched_take (v := ?_) (by simp only [List.getElem?_toArray, List.getElem?_cons_succ, List.getElem?_cons_zero]; rfl) (Or.inl ⟨by rfl, fun W hW => ?_⟩) HK5.out ?_; rotate_left; (have hc := fun b o hb => hW.cell b o trivial hb; clear hW; go_simp; with_reducible rfl); simp only [Act.put, List.setIfInBounds_toArray, List.set_cons_zero, List.set_cons_succ])
    refine sched_done ?_
    go_wp2
    go_roundw
    case rel => exact ⟨k + 1, by omega, by first | (go_num; done) | (go_num; omega), KA⟩
    case measure => simp [intOf]; omega
end Go.Proofs.Ytpehmmdbjakkpaa
