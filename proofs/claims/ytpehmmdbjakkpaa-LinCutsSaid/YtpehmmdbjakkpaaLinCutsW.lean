/- LinCuts: a history that has an order has one, too, cut off anywhere. -/
import Derived.Test.YtpehmmdbjakkpaaLinCut
import Derived.Test.YtpehmmdbjakkpaaLinFoundW
namespace Go.Proofs.Ytpehmmdbjakkpaa
open Go.RowKit Go.Shelf
set_option linter.unusedSimpArgs false
set_option linter.unusedVariables false
theorem Row.head13 {α : Type} {t : Ty α} {w : World} {S : Nat → Prop} {A : Option Addr} {n c : Nat} {xs : List α} (h : Row t w S (.slice A n c) xs) {k : Nat} (hk : k ≤ n) : Row t w S (.slice A k c) (xs.take k) := by
  obtain ⟨A', cc, hv, h1, h2, h3, h4⟩ := h
  injection hv with e1 e2 e3
  subst e1 e2 e3
  have hl : (xs.take k).length = k := by rw [List.length_take]; omega
  refine ⟨_, c, by rw [hl], by rw [hl]; omega, h2, h3, ?_⟩
  rcases h4 with rfl | ⟨b', off', he, hb, hlt, hel⟩
  · exact .inl (by simp)
  · refine .inr ⟨_, _, he, hb, hlt, fun j x hj => hel j x ?_⟩
    rw [List.getElem?_take] at hj
    split at hj
    · exact hj
    · cases hj
set_option maxRecDepth 100000 in
set_option maxHeartbeats 16000000 in
theorem linCuts_walk (w : World) (c : CfgD) (v : Value) (l : List EvD) (hr : Row tEv w (fun _ => True) v l) (okl : ∀ x ∈ l, okI x.th) (n : Int) (okn : okI n) : Calls Try.prog 16 #[c.val, v, .int .i64 n] w fun e w' => e = .returned (.bool true) ∧ Below w.heap.size w w' := by
  obtain ⟨A, cA, rfl⟩ := hr.slice
  have H := Lib.hid hr
  have OK := Lib.hid okl
  obtain ⟨_, hcap, hcap2, _⟩ := hr.n_eq
  unfold maxLen at hcap2
  clear hr okl
  unfold CfgD.val
  obtain ⟨W0, hW⟩ : ∃ W0, W0 = w.alloc (.cells #[.int .i64 c.nodes, .int .i64 c.edges, .int .i64 c.props, .int .i64 c.ids, .int .i64 c.eids] 23) := ⟨_, rfl⟩
  have K0 := Lib.hid (show Below w.heap.size w W0 by rw [hW]; exact (Below.refl _ w).alloc (Nat.le_refl _) _)
  have s0 : w.heap.size < W0.heap.size := by rw [hW]; simp
  have C0 := Lib.hid (show Box5 W0 w.heap.size _ _ _ _ _ from Box5.of (n := 23) (by rw [hW]; exact heap_alloc_new w _))
  go_enter Try.func16, Try.ntmps16
  go_wp2_with fail
  rw [← hW]
  clear hW
  refine (live13_calls W0).mono ?_
  rintro e w1 ⟨rfl, hb⟩
  have K1 := Lib.hid (K0.out.trans (hb.mono K0.out.size))
  have C1 := Lib.hid (C0.out.keep (hb.block _ s0))
  have s1 := hb.size
  clear hb C0
  go_wp2_with fail
  refine (few13_calls w1 _ _ l 6 (by omega) (H.out.below K1.out)).mono ?_
  rintro e w2 ⟨rfl, hb⟩
  have K2 := Lib.hid (K1.out.trans (hb.mono K1.out.size))
  have C2 := Lib.hid (C1.out.keep (hb.block _ (by omega)))
  have s2 := hb.size
  clear hb C1
  cases hf : few13 l 6
  case false =>
    clear hf
    go_wp2
    go_ret
    exact ⟨rfl, K2.out⟩
  obtain ⟨hfew, hlen⟩ := few13_ok (by omega) hf
  have HFW := Lib.hid hfew
  clear hf hfew
  by_cases n1 : n < 0
  · go_wp2
    go_ret
    exact ⟨rfl, K2.out⟩
  by_cases n2 : (l.length : Int) < n
  · go_wp2
    go_ret
    exact ⟨rfl, K2.out⟩
  obtain ⟨k, rfl⟩ : ∃ k : Nat, n = (k : Int) := ⟨n.toNat, by omega⟩
  have hk : k ≤ l.length := by omega
  obtain ⟨q0, q1, q2, q3, q4, qf⟩ := C2.out
  have l2 : w.heap.size < w2.heap.size := by omega
  go_wp2_with fail
  refine (search_calls w2 _ c _ l (H.out.below K2.out) hlen HFW.out OK.out).mono ?_
  rintro e w3 hp
  obtain ⟨r, hrr⟩ : ∃ r, r = firstD (startD c l) fun _ => true := ⟨_, rfl⟩
  rw [← hrr] at hp
  obtain ⟨vo, vn, ve, rfl, hro, hgr, hb⟩ := hp
  obtain ⟨x, e⟩ := r
  simp only at hro hgr ⊢
  obtain ⟨⟨A3, c3, rfl⟩, ⟨A4, c4, rfl⟩⟩ := hgr.slices
  obtain ⟨A5, c5, rfl⟩ := hro.slice
  obtain ⟨r2, hr2⟩ : ∃ r, r = firstD (startD c (l.take k)) fun _ => true := ⟨_, rfl⟩
  have HR2 := Lib.hid hr2
  have HIMP := Lib.hid (show e = 0 → r2.2 = 0 from fun he => by
    rw [hr2]
    exact cut_law hk (by rw [← hrr]; exact he))
  obtain ⟨V, hV⟩ : ∃ V, V = w3.alloc (.cells #[.slice A3 x.g.nodes.length c3, .slice A4 x.g.edges.length c4, .int .i64 x.g.nn, .int .i64 x.g.ne] 27) := ⟨_, rfl⟩
  have hbV : Below w3.heap.size w3 V := by rw [hV]; exact (Below.refl _ w3).alloc (Nat.le_refl _) _
  have C3 := Lib.hid ((C2.out.keep (hb.block _ l2)).keep (hbV.block _ (by have := hb.size; omega)))
  have K3 := Lib.hid (K2.out.trans ((hb.trans (hbV.mono hb.size)).mono K2.out.size))
  have s3 := hb.size
  have s4 : w3.heap.size < V.heap.size := by rw [hV]; simp
  clear hb hbV hro hgr C2 hrr hr2 q0 q1 q2 q3 q4 qf
  have l3 : w.heap.size < V.heap.size := by omega
  go_wp2_with fail
  rw [← hV]
  clear hV
  refine wp_region_tr (fun _ => True) (.take 0 (.take 1 (.take 2 (.take 3 (.two 4 (.take 5 (.take 6 (.take 7 (.take 8 (.step 9 (.take 10 (.step 11 (.take 12 .nil)))))))) 9 (.step 4 (.take 5 (.take 6 (.take 7 (.take 8 (.take 10 (.step 11 (.take 12 .nil))))))))))))) (by kernel_rfl) (by kernel_rfl) (fun hS => ?_)
  have HK := Lib.hid hS
  clear hS
  have KD := Lib.hid (Below.refl V.heap.size V).drew
  revert HK KD
  generalize V.drew = Vd
  intro HK KD
  obtain ⟨q0, q1, q2, q3, q4, qf⟩ := C3.out
  repeat (refine tr_take (v := ?_) (by simp only [List.getElem?_toArray, List.getElem?_cons_succ, List.getElem?_cons_zero]; rfl) (Or.inl ⟨by rfl, fun W hW => ?_⟩) HK.out ?_; rotate_left; (have hc := fun b o hb => hW.cell b o trivial hb; clear hW; go_simp; with_reducible rfl); simp only [Act.put, List.setIfInBounds_toArray, List.set_cons_zero, List.set_cons_succ])
  refine tr_take (v := .slice A k cA) (by simp only [List.getElem?_toArray, List.getElem?_cons_succ, List.getElem?_cons_zero]; rfl) (Or.inl ⟨by rfl, fun W hW => ?_⟩) HK.out ?_
  · clear hW
    go_simp
    try (intro h; exfalso; omega)
  simp only [Act.put, List.setIfInBounds_toArray, List.set_cons_zero, List.set_cons_succ]
  have K4 := Lib.hid (K3.out.trans (KD.out.mono K3.out.size))
  have sD := KD.out.size
  clear q0 q1 q2 q3 q4 qf
  have hlk : (l.take k).length ≤ 1000000 := by rw [List.length_take]; omega
  refine tr_two (by simp only [List.getElem?_toArray, List.getElem?_cons_succ, List.getElem?_cons_zero]; rfl) ?_ (by simp only [List.getElem?_toArray, List.getElem?_cons_succ, List.getElem?_cons_zero]; rfl) (Hid.out ?_)
  · skip
    go_wp2_with fail
    refine (search_calls Vd _ c _ (l.take k) ((H.out.below K4.out).head13 hk) hlk (fun x hx => HFW.out x (List.mem_of_mem_take hx)) (fun x hx => OK.out x (List.mem_of_mem_take hx))).mono ?_
    rintro e' w5 hp
    rw [← HR2.out] at hp
    obtain ⟨uo, un, ue, rfl, hro, hgr, hb⟩ := hp
    obtain ⟨y, f⟩ := r2
    simp only at hro hgr HIMP ⊢
    obtain ⟨⟨A6, c6, rfl⟩, ⟨A7, c7, rfl⟩⟩ := hgr.slices
    obtain ⟨A8, c8, rfl⟩ := hro.slice
    have HK5 := Lib.hid (HK.out.below hb)
    have K5 := Lib.hid (K4.out.trans (hb.mono K4.out.size))
    have s5 := hb.size
    have sV5 := K4.out.size
    clear hb hro hgr HK KD
    go_wp2_with fail
    refine tr_on HK5.out ?_
    repeat (refine tr_take (v := ?_) (by simp only [List.getElem?_toArray, List.getElem?_cons_succ, List.getElem?_cons_zero]; rfl) (Or.inl ⟨by rfl, fun W hW => ?_⟩) HK5.out ?_; rotate_left; (skip; clear hW; go_simp; with_reducible rfl); simp only [Act.put, List.setIfInBounds_toArray, List.set_cons_zero, List.set_cons_succ])
    refine tr_step (by simp only [List.getElem?_toArray, List.getElem?_cons_succ, List.getElem?_cons_zero]; rfl) ?_
    obtain ⟨U, hU⟩ : ∃ U, U = w5.alloc (.cells #[.slice none 0 0, .slice none 0 0, .int .i64 0, .int .i64 0] 27) := ⟨_, rfl⟩
    have hbU : Below w5.heap.size w5 U := by rw [hU]; exact (Below.refl _ w5).alloc (Nat.le_refl _) _
    have B5 := Lib.hid (show Box4 U w5.heap.size _ _ _ _ from by rw [hU]; exact Box4.made w5 27 (.slice none 0 0) (.slice none 0 0) (.int .i64 0) (.int .i64 0))
    have sU : w5.heap.size < U.heap.size := by rw [hU]; simp
    have HKU := Lib.hid (HK5.out.below hbU)
    have KU := Lib.hid (K5.out.trans (hbU.mono K5.out.size))
    go_wp2_with fail
    rw [← hU]
    clear hU hbU HK5
    refine tr_on HKU.out ?_
    repeat (refine tr_take (v := ?_) (by simp only [List.getElem?_toArray, List.getElem?_cons_succ, List.getElem?_cons_zero]; rfl) (Or.inl ⟨by rfl, fun W hW => ?_⟩) HKU.out ?_; rotate_left; (skip; clear hW; go_simp; with_reducible rfl); simp only [Act.put, List.setIfInBounds_toArray, List.set_cons_zero, List.set_cons_succ])
    refine tr_step (by simp only [List.getElem?_toArray, List.getElem?_cons_succ, List.getElem?_cons_zero]; rfl) ?_
    obtain ⟨b0, b1, b2, b3, bf⟩ := B5.out
    have HK6 := Lib.hid (show Kept V (fun _ => True) (set4 U w5.heap.size (.slice A6 y.g.nodes.length c6) (.slice A7 y.g.edges.length c7) (.int .i64 y.g.nn) (.int .i64 y.g.ne)) from by unfold set4; exact (by repeat (first | (with_reducible exact HKU.out) | (with_reducible refine Kept.setCell ?_ (.inl (by simp; try omega)) _))))
    have K6 := Lib.hid (set4_below KU.out (by omega : w.heap.size ≤ w5.heap.size) (.slice A6 y.g.nodes.length c6) (.slice A7 y.g.edges.length c7) (.int .i64 y.g.nn) (.int .i64 y.g.ne))
    unfold set4 at HK6 K6
    go_wp2_with fail
    refine tr_on HK6.out ?_
    repeat (refine tr_take (v := ?_) (by simp only [List.getElem?_toArray, List.getElem?_cons_succ, List.getElem?_cons_zero]; rfl) (Or.inl ⟨by rfl, fun W hW => ?_⟩) HK6.out ?_; rotate_left; (skip; clear hW; go_simp; with_reducible rfl); simp only [Act.put, List.setIfInBounds_toArray, List.set_cons_zero, List.set_cons_succ])
    refine tr_done ?_
    by_cases he : e = 0
    · have hf := HIMP.out he
      subst he hf
      go_wp2
      go_ret
      exact ⟨rfl, K6.out⟩
    · go_wp2
      go_ret
      exact ⟨rfl, K6.out⟩
  · refine Lib.hid ?_
    obtain ⟨V1, hV⟩ : ∃ V1, V1 = Vd.alloc (.cells #[.slice none 0 0, .slice none 0 0, .int .i64 0, .int .i64 0] 27) := ⟨_, rfl⟩
    have hb1 : Below Vd.heap.size Vd V1 := by rw [hV]; exact (Below.refl _ Vd).alloc (Nat.le_refl _) _
    have B1 := Lib.hid (show Box4 V1 Vd.heap.size _ _ _ _ from by rw [hV]; exact Box4.made Vd 27 (.slice none 0 0) (.slice none 0 0) (.int .i64 0) (.int .i64 0))
    have sV1 : Vd.heap.size < V1.heap.size := by rw [hV]; simp
    have HK1 := Lib.hid (HK.out.below hb1)
    have K5 := Lib.hid (K4.out.trans (hb1.mono K4.out.size))
    go_wp2_with fail
    rw [← hV]
    clear hV hb1 HK
    refine tr_on HK1.out ?_
    refine tr_step (by simp only [List.getElem?_toArray, List.getElem?_cons_succ, List.getElem?_cons_zero]; rfl) ?_
    go_wp2_with fail
    refine (search_calls V1 _ c _ (l.take k) ((H.out.below K5.out).head13 hk) hlk (fun x hx => HFW.out x (List.mem_of_mem_take hx)) (fun x hx => OK.out x (List.mem_of_mem_take hx))).mono ?_
    rintro e' U hp
    rw [← HR2.out] at hp
    obtain ⟨uo, un, ue, rfl, hro, hgr, hb⟩ := hp
    obtain ⟨y, f⟩ := r2
    simp only at hro hgr HIMP ⊢
    obtain ⟨⟨A6, c6, rfl⟩, ⟨A7, c7, rfl⟩⟩ := hgr.slices
    obtain ⟨A8, c8, rfl⟩ := hro.slice
    have HKU := Lib.hid (HK1.out.below hb)
    have KU := Lib.hid (K5.out.trans (hb.mono K5.out.size))
    have B5 := Lib.hid (B1.out.keep (hb.block _ sV1))
    have sU : Vd.heap.size < U.heap.size := by have := hb.size; omega
    have sV5 := K4.out.size
    clear hb hro hgr HK1 K5 B1
    go_wp2_with fail
    refine tr_on HKU.out ?_
    repeat (refine tr_take (v := ?_) (by simp only [List.getElem?_toArray, List.getElem?_cons_succ, List.getElem?_cons_zero]; rfl) (Or.inl ⟨by rfl, fun W hW => ?_⟩) HKU.out ?_; rotate_left; (skip; clear hW; go_simp; with_reducible rfl); simp only [Act.put, List.setIfInBounds_toArray, List.set_cons_zero, List.set_cons_succ])
    refine tr_step (by simp only [List.getElem?_toArray, List.getElem?_cons_succ, List.getElem?_cons_zero]; rfl) ?_
    obtain ⟨b0, b1, b2, b3, bf⟩ := B5.out
    have HK6 := Lib.hid (show Kept V (fun _ => True) (set4 U Vd.heap.size (.slice A6 y.g.nodes.length c6) (.slice A7 y.g.edges.length c7) (.int .i64 y.g.nn) (.int .i64 y.g.ne)) from by unfold set4; exact (by repeat (first | (with_reducible exact HKU.out) | (with_reducible refine Kept.setCell ?_ (.inl (by simp; try omega)) _))))
    have K6 := Lib.hid (set4_below KU.out (by omega : w.heap.size ≤ Vd.heap.size) (.slice A6 y.g.nodes.length c6) (.slice A7 y.g.edges.length c7) (.int .i64 y.g.nn) (.int .i64 y.g.ne))
    unfold set4 at HK6 K6
    go_wp2_with fail
    refine tr_on HK6.out ?_
    repeat (refine tr_take (v := ?_) (by simp only [List.getElem?_toArray, List.getElem?_cons_succ, List.getElem?_cons_zero]; rfl) (Or.inl ⟨by rfl, fun W hW => ?_⟩) HK6.out ?_; rotate_left; (skip; clear hW; go_simp; with_reducible rfl); simp only [Act.put, List.setIfInBounds_toArray, List.set_cons_zero, List.set_cons_succ])
    refine tr_done ?_
    by_cases he : e = 0
    · have hf := HIMP.out he
      subst he hf
      go_wp2
      go_ret
      exact ⟨rfl, K6.out⟩
    · go_wp2
      go_ret
      exact ⟨rfl, K6.out⟩
end Go.Proofs.Ytpehmmdbjakkpaa
