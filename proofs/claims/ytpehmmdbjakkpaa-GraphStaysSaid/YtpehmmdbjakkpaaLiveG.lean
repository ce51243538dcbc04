/- The chapter's example stands. -/
import Derived.Test.YtpehmmdbjakkpaaFuse0
import Derived.Test.YtpehmmdbjakkpaaSchedT
namespace Go.Proofs.Ytpehmmdbjakkpaa
open Go.RowKit Go.Shelf
set_option linter.unusedSimpArgs false
set_option linter.unusedVariables false
def liveC : CfgD := ⟨4, 4, 4, 4, 4⟩
def liveG0 : GraphD := ⟨[], [], 1, 1⟩
def liveG1 : GraphD := ⟨[⟨1, []⟩], [], 2, 1⟩
def liveG2 : GraphD := ⟨[⟨1, []⟩, ⟨2, []⟩], [], 3, 1⟩
def liveG3 : GraphD := ⟨[⟨1, []⟩, ⟨2, []⟩], [⟨1, 1, 2⟩], 3, 2⟩
def liveG4 : GraphD := ⟨[⟨1, []⟩], [⟨1, 1, 1⟩], 3, 2⟩
theorem live_a1 : addOf liveC liveG0 = (liveG1, 1, 0) := by decide
theorem live_a2 : addOf liveC liveG1 = (liveG2, 2, 0) := by decide
theorem live_a3 : linkOf liveC liveG2 1 2 = (liveG3, 1, 0) := by decide
theorem live_a4 : atOf liveG3.nodes 1 = ((0 : Nat) : Int) := by decide
theorem live_a5 : atOf liveG3.nodes 2 = ((1 : Nat) : Int) := by decide
theorem live_a6 : (⟨liveG3.nodes.filter (fun x => !(x.id == 2)), liveG3.edges.map (subE 1 2), liveG3.nn, liveG3.ne⟩ : GraphD) = liveG4 := by decide
theorem live_a7 : nearOf liveG4 1 = ([⟨1, 1⟩], [⟨1, 1⟩], 0) := by decide
theorem small_of {g : GraphD} (h1 : g.nodes.length ≤ 1000000) (h2 : g.edges.length ≤ 1000000) (h3 : ∀ x ∈ g.nodes, x.ps.length ≤ 1000000) : g.small := ⟨h1, h2, h3⟩
theorem live_s0 : liveG0.small := ⟨by decide, by decide, by decide⟩
theorem live_s1 : liveG1.small := ⟨by decide, by decide, by decide⟩
theorem live_s2 : liveG2.small := ⟨by decide, by decide, by decide⟩
theorem live_s3 : liveG3.small := ⟨by decide, by decide, by decide⟩
set_option maxRecDepth 100000 in
set_option maxHeartbeats 8000000 in
theorem live_calls (w : World) : Calls Try.prog 20 #[] w fun e w' => e = .returned (.bool true) ∧ Below w.heap.size w w' := by
  go_enter Try.func20, Try.ntmps20
  go_wp2_with fail
  refine (plain_calls _).mono ?_
  rintro e w1 ⟨rfl, hb1⟩
  have K1 := Lib.hid hb1
  have s1 := hb1.size
  clear hb1
  go_wp2_with fail
  refine (new_calls _).mono ?_
  rintro e w2 ⟨rfl, hb2⟩
  have K2 := Lib.hid (K1.out.trans (hb2.mono s1))
  have s2 := K2.out.size
  clear hb2 K1 s1
  go_wp2_with fail
  refine (add_calls w2 (fun _ => True) liveC liveG0 _ _ (Gr.zero _ _ _ _) live_s0 (by decide) (by decide) (by decide)).mono ?_
  rw [live_a1]
  rintro e w3 ⟨vn, ve, rfl, hg3, hb3⟩
  obtain ⟨⟨A1, c1, rfl⟩, ⟨A2, c2, rfl⟩⟩ := hg3.slices
  have K3 := Lib.hid (K2.out.trans (hb3.mono s2))
  have s3 := K3.out.size
  have G3 := Lib.hid hg3
  clear hb3 hg3 K2 s2
  simp only [liveG1, List.length_cons, List.length_nil]
  go_wp2_with fail
  have G3b := Lib.hid (G3.out.below (Below.heap1 w3 (.cells #[.slice A1 1 c1, .slice A2 0 c2, .int .i64 2, .int .i64 1] 27)).drew)
  have B3 := Lib.hid (Box4.made w3 27 (.slice A1 1 c1) (.slice A2 0 c2) (.int .i64 2) (.int .i64 1))
  have K3b := Lib.hid (K3.out.trans ((Below.heap1 w3 (.cells #[.slice A1 1 c1, .slice A2 0 c2, .int .i64 2, .int .i64 1] 27)).drew.mono s3))
  refine wp_region_tr (fun k => ¬ k = w3.heap.size) (.two 0 (.step 1 (.step 2 (.take 3 (.take 4 (.take 5 (.take 6 (.step 7 (.take 8 (.take 9 .nil))))))))) 1 (.step 0 (.step 2 (.take 3 (.take 4 (.take 5 (.take 6 (.step 7 (.take 8 (.take 9 .nil)))))))))) (by kernel_rfl) (by kernel_rfl) (fun hS => ?_)
  have HK := Lib.hid hS
  clear hS
  refine tr_two (by simp only [List.getElem?_toArray, List.getElem?_cons_succ, List.getElem?_cons_zero]; rfl) ?brA (by simp only [List.getElem?_toArray, List.getElem?_cons_succ, List.getElem?_cons_zero]; rfl) ?brB
  case' brA =>
    go_wp2_with fail
    refine (plain_calls _).mono ?_
    rintro e w4 ⟨rfl, hb4⟩
    have HK4 := Lib.hid (HK.out.below hb4)
    have K4 := Lib.hid (K3b.out.trans (hb4.mono (by simp; omega)))
    have G4 := Lib.hid (G3b.out.below hb4)
    have B4 := Lib.hid (B3.out.keep (hb4.block w3.heap.size (by simp)))
    have s4 := hb4.size
    clear hb4
    simp only [World.size_alloc, World.size_drew] at s4
    obtain ⟨x0, x1, x2, x3, xf⟩ := B4.out
    go_wp2_with fail
    refine tr_on HK4.out ?_
    refine tr_step (by simp only [List.getElem?_toArray, List.getElem?_cons_succ, List.getElem?_cons_zero]; rfl) ?_
    go_wp2_with fail
    refine tr_on HK4.out ?_
    clear x0 x1 x2 x3 xf
  case' brB =>
    go_wp2_with fail
    refine tr_on HK.out ?_
    refine tr_step (by simp only [List.getElem?_toArray, List.getElem?_cons_succ, List.getElem?_cons_zero]; rfl) ?_
    go_wp2_with fail
    refine (plain_calls _).mono ?_
    rintro e w4 ⟨rfl, hb4⟩
    have HK4 := Lib.hid (HK.out.below hb4)
    have K4 := Lib.hid (K3b.out.trans (hb4.mono (by simp; omega)))
    have G4 := Lib.hid (G3b.out.below hb4)
    have B4 := Lib.hid (B3.out.keep (hb4.block w3.heap.size (by simp)))
    have s4 := hb4.size
    clear hb4
    simp only [World.size_alloc, World.size_drew] at s4
    go_wp2_with fail
    refine tr_on HK4.out ?_
  all_goals
    clear HK G3 G3b B3 K3 K3b
    refine tr_step (by simp only [List.getElem?_toArray, List.getElem?_cons_succ, List.getElem?_cons_zero]; rfl) ?_
    go_wp2_with fail
    refine (add_calls w4 _ liveC liveG1 _ _ G4.out live_s1 (by decide) (by decide) (by decide)).mono ?_
    rw [live_a2]
    rintro e w5 ⟨vn5, ve5, rfl, hg5, hb5⟩
    obtain ⟨⟨A5, c5, rfl⟩, ⟨A6, c6, rfl⟩⟩ := hg5.slices
    have HK5 := Lib.hid (HK4.out.below hb5)
    have K5 := Lib.hid (K4.out.trans (hb5.mono (by omega)))
    have s5 := hb5.size
    have G5 := Lib.hid hg5
    have B5 := Lib.hid (B4.out.keep (hb5.block w3.heap.size (by omega)))
    clear hb5 hg5 HK4 K4 G4 B4
    simp only [liveG2, List.length_cons, List.length_nil]
    obtain ⟨x0, x1, x2, x3, xf⟩ := B5.out
    go_wp2_with fail
    refine tr_on HK5.out ?_
    repeat (refine tr_take (v := ?_) (by simp only [List.getElem?_toArray, List.getElem?_cons_succ, List.getElem?_cons_zero]; rfl) (Or.inl ⟨by rfl, fun W hW => ?_⟩) HK5.out ?_; rotate_left; (skip; clear hW; go_simp; with_reducible rfl); simp only [Act.put, List.setIfInBounds_toArray, List.set_cons_zero, List.set_cons_succ])
    refine tr_step (by simp only [List.getElem?_toArray, List.getElem?_cons_succ, List.getElem?_cons_zero]; rfl) ?_
    go_wp2_with fail
    have HKs := Lib.hid ((((HK5.out.setCell (p := ⟨w3.heap.size, 0, none⟩) (.inr (by simp)) (.slice A5 2 c5)).setCell (p := ⟨w3.heap.size, 1, none⟩) (.inr (by simp)) (.slice A6 0 c6)).setCell (p := ⟨w3.heap.size, 2, none⟩) (.inr (by simp)) (.int .i64 3)).setCell (p := ⟨w3.heap.size, 3, none⟩) (.inr (by simp)) (.int .i64 1))
    refine tr_on HKs.out ?_
    repeat (refine tr_take (v := ?_) (by simp only [List.getElem?_toArray, List.getElem?_cons_succ, List.getElem?_cons_zero]; rfl) (Or.inl ⟨by rfl, fun W hW => ?_⟩) HKs.out ?_; rotate_left; (skip; clear hW; go_simp; with_reducible rfl); simp only [Act.put, List.setIfInBounds_toArray, List.set_cons_zero, List.set_cons_succ])
    clear HKs
    refine tr_done ?_
    clear x0 x1 x2 x3 xf
    have hbx : w3.heap.size < w4.heap.size := by omega
    obtain ⟨W5, hW⟩ : ∃ W, W = set4 w5 w3.heap.size (.slice A5 2 c5) (.slice A6 0 c6) (.int .i64 3) (.int .i64 1) := ⟨_, rfl⟩
    have BWW5 := Lib.hid (show Box4 W5 w3.heap.size (.slice A5 2 c5) (.slice A6 0 c6) (.int .i64 3) (.int .i64 1) by rw [hW]; exact B5.out.set _ _ _ _)
    have KWW5 := Lib.hid (show Below w.heap.size w W5 by rw [hW]; exact set4_below K5.out (by omega) _ _ _ _)
    have GWW5 := Lib.hid (G5.out.move (w' := W5) (fun k hk _ => by rw [hW]; exact set4_heap _ _ _ _ _ _ k (by omega)))
    have sWW5 : W5.heap.size = w5.heap.size := by rw [hW, set4_size]
    unfold set4 at hW
    rw [← hW]
    clear hW
    clear HK5
    go_wp2_with fail
    refine wp_region_tr (fun k => ¬ k = w3.heap.size) (.take 2 (.take 3 (.two 0 (.step 1 (.step 4 (.take 5 (.take 6 (.take 7 (.take 8 (.step 9 (.take 10 (.take 11 .nil))))))))) 1 (.step 0 (.step 4 (.take 5 (.take 6 (.take 7 (.take 8 (.step 9 (.take 10 (.take 11 .nil)))))))))))) (by kernel_rfl) (by kernel_rfl) (fun hS => ?_)
    have HK := Lib.hid hS
    clear hS
    repeat (refine tr_take (v := ?_) (by simp only [List.getElem?_toArray, List.getElem?_cons_succ, List.getElem?_cons_zero]; rfl) (Or.inl ⟨by rfl, fun W hW => ?_⟩) HK.out ?_; rotate_left; (skip; clear hW; go_simp; with_reducible rfl); simp only [Act.put, List.setIfInBounds_toArray, List.set_cons_zero, List.set_cons_succ])
    refine tr_two (by simp only [List.getElem?_toArray, List.getElem?_cons_succ, List.getElem?_cons_zero]; rfl) ?_ (by simp only [List.getElem?_toArray, List.getElem?_cons_succ, List.getElem?_cons_zero]; rfl) (Hid.out ?_)
    go_wp2_with fail
    refine (plain_calls _).mono ?_
    rintro e w6 ⟨rfl, hb6⟩
    have HK6 := Lib.hid (HK.out.below hb6)
    have K6 := Lib.hid (KWW5.out.drew.trans (hb6.mono (by simp; omega)))
    have G6 := Lib.hid ((GWW5.out.below (Below.refl _ _).drew).below hb6)
    have B6 := Lib.hid (BWW5.out.keep (hb6.block w3.heap.size (by simp; omega)))
    have s6 := hb6.size
    clear hb6
    simp only [World.size_alloc, World.size_drew] at s6
    obtain ⟨x0, x1, x2, x3, xf⟩ := B6.out
    go_wp2_with fail
    refine tr_on HK6.out ?_
    refine tr_step (by simp only [List.getElem?_toArray, List.getElem?_cons_succ, List.getElem?_cons_zero]; rfl) ?_
    go_wp2_with fail
    refine tr_on HK6.out ?_
    clear x0 x1 x2 x3 xf
    rotate_left
    refine Lib.hid ?_
    obtain ⟨x0, x1, x2, x3, xf⟩ := BWW5.out
    go_wp2_with fail
    refine tr_on HK.out ?_
    refine tr_step (by simp only [List.getElem?_toArray, List.getElem?_cons_succ, List.getElem?_cons_zero]; rfl) ?_
    clear x0 x1 x2 x3 xf
    go_wp2_with fail
    refine (plain_calls _).mono ?_
    rintro e w6 ⟨rfl, hb6⟩
    have HK6 := Lib.hid (HK.out.below hb6)
    have K6 := Lib.hid (KWW5.out.drew.trans (hb6.mono (by simp; omega)))
    have G6 := Lib.hid ((GWW5.out.below (Below.refl _ _).drew).below hb6)
    have B6 := Lib.hid (BWW5.out.keep (hb6.block w3.heap.size (by simp; omega)))
    have s6 := hb6.size
    clear hb6
    simp only [World.size_alloc, World.size_drew] at s6
    go_wp2_with fail
    refine tr_on HK6.out ?_
    all_goals
      refine tr_step (by simp only [List.getElem?_toArray, List.getElem?_cons_succ, List.getElem?_cons_zero]; rfl) ?_
      go_wp2_with fail
      refine (link_calls w6 _ liveC liveG2 _ _ 1 2 G6.out live_s2 (by decide) (by decide) (by decide)).mono ?_
      rw [live_a3]
      rintro e w7 ⟨vn7, ve7, rfl, hg7, hb7⟩
      obtain ⟨⟨A7, c7, rfl⟩, ⟨A8, c8, rfl⟩⟩ := hg7.slices
      have HK7 := Lib.hid (HK6.out.below hb7)
      have K7 := Lib.hid (K6.out.trans (hb7.mono (by omega)))
      have s7 := hb7.size
      have G7 := Lib.hid hg7
      have B7 := Lib.hid (B6.out.keep (hb7.block w3.heap.size (by omega)))
      clear hb7 hg7 HK6 K6 G6 B6
      simp only [liveG3, List.length_cons, List.length_nil]
      obtain ⟨x0, x1, x2, x3, xf⟩ := B7.out
      go_wp2_with fail
      refine tr_on HK7.out ?_
      repeat (refine tr_take (v := ?_) (by simp only [List.getElem?_toArray, List.getElem?_cons_succ, List.getElem?_cons_zero]; rfl) (Or.inl ⟨by rfl, fun W hW => ?_⟩) HK7.out ?_; rotate_left; (skip; clear hW; go_simp; with_reducible rfl); simp only [Act.put, List.setIfInBounds_toArray, List.set_cons_zero, List.set_cons_succ])
      refine tr_step (by simp only [List.getElem?_toArray, List.getElem?_cons_succ, List.getElem?_cons_zero]; rfl) ?_
      go_wp2_with fail
      have HKs := Lib.hid ((((HK7.out.setCell (p := ⟨w3.heap.size, 0, none⟩) (.inr (by simp)) (.slice A7 2 c7)).setCell (p := ⟨w3.heap.size, 1, none⟩) (.inr (by simp)) (.slice A8 1 c8)).setCell (p := ⟨w3.heap.size, 2, none⟩) (.inr (by simp)) (.int .i64 3)).setCell (p := ⟨w3.heap.size, 3, none⟩) (.inr (by simp)) (.int .i64 2))
      refine tr_on HKs.out ?_
      repeat (refine tr_take (v := ?_) (by simp only [List.getElem?_toArray, List.getElem?_cons_succ, List.getElem?_cons_zero]; rfl) (Or.inl ⟨by rfl, fun W hW => ?_⟩) HKs.out ?_; rotate_left; (skip; clear hW; go_simp; with_reducible rfl); simp only [Act.put, List.setIfInBounds_toArray, List.set_cons_zero, List.set_cons_succ])
      clear HKs
      refine tr_done ?_
      clear x0 x1 x2 x3 xf
      have hbx2 : w3.heap.size < w6.heap.size := by omega
      obtain ⟨W7, hW⟩ : ∃ W, W = set4 w7 w3.heap.size (.slice A7 2 c7) (.slice A8 1 c8) (.int .i64 3) (.int .i64 2) := ⟨_, rfl⟩
      have BWW7 := Lib.hid (show Box4 W7 w3.heap.size (.slice A7 2 c7) (.slice A8 1 c8) (.int .i64 3) (.int .i64 2) by rw [hW]; exact B7.out.set _ _ _ _)
      have KWW7 := Lib.hid (show Below w.heap.size w W7 by rw [hW]; exact set4_below K7.out (by omega) _ _ _ _)
      have GWW7 := Lib.hid (G7.out.move (w' := W7) (fun k hk _ => by rw [hW]; exact set4_heap _ _ _ _ _ _ k (by omega)))
      have sWW7 : W7.heap.size = w7.heap.size := by rw [hW, set4_size]
      unfold set4 at hW
      rw [← hW]
      clear hW
      obtain ⟨x0, x1, x2, x3, xf⟩ := BWW7.out
      go_wp2_with fail
      refine (fuse0_calls W7 _ liveG3 _ _ 1 2 GWW7.out live_s3 (by decide) live_a4 live_a5 (xi := ⟨1, []⟩) (xj := ⟨2, []⟩) rfl rfl rfl (by decide)).mono ?_
      rw [live_a6]
      rintro e w8 ⟨vn9, ve9, rfl, hg9, hb9⟩
      obtain ⟨⟨A9, c9, rfl⟩, ⟨A10, c10, rfl⟩⟩ := hg9.slices
      have hKs := KWW7.out.size
      have K9 := Lib.hid (KWW7.out.trans (hb9.mono hKs))
      have s9 := hb9.size
      have G9 := Lib.hid hg9
      have B9 := Lib.hid (BWW7.out.keep (hb9.block w3.heap.size (by omega)))
      clear hb9 hg9 x0 x1 x2 x3 xf
      have hz : liveG3.nn = 3 ∧ liveG3.ne = 2 := ⟨rfl, rfl⟩
      rw [hz.1, hz.2]
      clear hz
      simp only [liveG4, List.length_cons, List.length_nil]
      obtain ⟨x0, x1, x2, x3, xf⟩ := B9.out
      go_wp2_with fail
      have hW : ∃ W, W = set4 w8 w3.heap.size (.slice A9 1 c9) (.slice A10 1 c10) (.int .i64 3) (.int .i64 2) := ⟨_, rfl⟩
      obtain ⟨W9, hW⟩ := hW
      have BW9 := Lib.hid (show Box4 W9 w3.heap.size (.slice A9 1 c9) (.slice A10 1 c10) (.int .i64 3) (.int .i64 2) by rw [hW]; exact B9.out.set _ _ _ _)
      have KW9 := Lib.hid (show Below w.heap.size w W9 by rw [hW]; exact set4_below K9.out (by omega) _ _ _ _)
      have sW9 : W9.heap.size = w8.heap.size := by rw [hW, set4_size]
      have GW9 := Lib.hid (G9.out.move (w' := W9) (fun k hk _ => by rw [hW]; exact set4_heap _ _ _ _ _ _ k (by omega)))
      unfold set4 at hW
      rw [← hW]
      clear hW x0 x1 x2 x3 xf
      refine (near_calls W9 _ liveG4 _ _ 1 GW9.out (by decide) (by decide)).mono ?_
      rw [live_a7]
      rintro e w10 ⟨vo, vi, rfl, hro, hri, hb10⟩
      have hKs2 := KW9.out.size
      have K10 := Lib.hid (KW9.out.trans (hb10.mono hKs2))
      have B10 := Lib.hid (BW9.out.keep (hb10.block w3.heap.size (by omega)))
      obtain ⟨Ao, co, rfl⟩ := hro.slice
      obtain ⟨Ai, ci, rfl⟩ := hri.slice
      obtain ⟨bo, oo, rfl, _, hbo, o0, o1⟩ := hro.atP (j := 0) (x := ⟨1, 1⟩) rfl
      obtain ⟨bi, oi, rfl, _, hbi, i0, i1⟩ := hri.atP (j := 0) (x := ⟨1, 1⟩) rfl
      clear hro hri hb10
      simp only [List.length_cons, List.length_nil, Nat.zero_mul, Nat.add_zero] at o0 o1 i0 i1 ⊢
      obtain ⟨x0, x1, x2, x3, xf⟩ := B10.out
      go_wp2
      go_ret
      exact ⟨rfl, K10.out⟩
end Go.Proofs.Ytpehmmdbjakkpaa
