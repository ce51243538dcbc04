/- LinFound: what is found is an order, and comes to the graph that is told; and that is reached. -/
import Derived.Test.YtpehmmdbjakkpaaLinQM
namespace Go.Proofs.Ytpehmmdbjakkpaa
open Go.RowKit Go.Shelf
set_option linter.unusedSimpArgs false
set_option linter.unusedVariables false
theorem few13_ok {l : List EvD} {m : Int} (hm : m ≤ 100) (h : few13 l m = true) : (∀ x ∈ l, x.res.few) ∧ l.length ≤ 1000000 := by
  obtain ⟨h1, h2, _⟩ := few13_few h
  refine ⟨fun x hx => ?_, by omega⟩
  obtain ⟨a, b, c⟩ := h1 x hx
  exact ⟨by omega, by omega, by omega⟩
set_option maxRecDepth 100000 in
set_option maxHeartbeats 16000000 in
theorem linFound_walk (w : World) (c : CfgD) (v : Value) (l : List EvD) (hr : Row tEv w (fun _ => True) v l) (okl : ∀ x ∈ l, okI x.th) : Calls Try.prog 19 #[c.val, v] w fun e w' => e = .returned (.bool true) ∧ Below w.heap.size w w' := by
  obtain ⟨A, cA, rfl⟩ := hr.slice
  have H := Lib.hid hr
  have OK := Lib.hid okl
  clear hr okl
  unfold CfgD.val
  obtain ⟨W0, hW⟩ : ∃ W0, W0 = w.alloc (.cells #[.int .i64 c.nodes, .int .i64 c.edges, .int .i64 c.props, .int .i64 c.ids, .int .i64 c.eids] 23) := ⟨_, rfl⟩
  have K0 := Lib.hid (show Below w.heap.size w W0 by rw [hW]; exact (Below.refl _ w).alloc (Nat.le_refl _) _)
  have s0 : w.heap.size < W0.heap.size := by rw [hW]; simp
  have C0 := Lib.hid (show Box5 W0 w.heap.size _ _ _ _ _ from Box5.of (n := 23) (by rw [hW]; exact heap_alloc_new w _))
  go_enter Try.func19, Try.ntmps19
  go_wp2_with fail
  rw [← hW]
  clear hW
  refine (live13_calls W0).mono ?_
  rintro e w1 ⟨rfl, hb⟩
  have K1 := Lib.hid (K0.out.trans (hb.mono K0.out.size))
  have C1 := Lib.hid (C0.out.keep (hb.block _ s0))
  have s1 := hb.size
  clear hb C0
  go_wp2_with fail
  refine (few13_calls w1 _ _ l 7 (by omega) (H.out.below K1.out)).mono ?_
  rintro e w2 ⟨rfl, hb⟩
  have K2 := Lib.hid (K1.out.trans (hb.mono K1.out.size))
  have C2 := Lib.hid (C1.out.keep (hb.block _ (by omega)))
  have s2 := hb.size
  clear hb C1
  cases hf : few13 l 7
  case false =>
    clear hf
    go_wp2
    go_ret
    exact ⟨rfl, K2.out⟩
  obtain ⟨hfew, hlen⟩ := few13_ok (by omega) hf
  have HFW := Lib.hid hfew
  clear hf hfew
  obtain ⟨c0, c1, c2, c3, c4, cf⟩ := C2.out
  have l2 : w.heap.size < w2.heap.size := by omega
  go_wp2_with fail
  refine (search_calls w2 _ c _ l (H.out.below K2.out) hlen HFW.out OK.out).mono ?_
  rintro e w3 hp
  obtain ⟨r, hrr⟩ : ∃ r, r = firstD (startD c l) fun _ => true := ⟨_, rfl⟩
  rw [← hrr] at hp
  obtain ⟨vo, vn, ve, rfl, hro, hgr, hb⟩ := hp
  have HRR := Lib.hid hrr.symm
  clear hrr c0 c1 c2 c3 c4 cf
  obtain ⟨x, e⟩ := r
  simp only at hro hgr ⊢
  obtain ⟨⟨A3, c3, rfl⟩, ⟨A4, c4, rfl⟩⟩ := hgr.slices
  obtain ⟨A5, c5, rfl⟩ := hro.slice
  obtain ⟨V, hV⟩ : ∃ V, V = w3.alloc (.cells #[.slice A3 x.g.nodes.length c3, .slice A4 x.g.edges.length c4, .int .i64 x.g.nn, .int .i64 x.g.ne] 27) := ⟨_, rfl⟩
  have hbV : Below w3.heap.size w3 V := by rw [hV]; exact (Below.refl _ w3).alloc (Nat.le_refl _) _
  have G3 := Lib.hid (show Box4 V w3.heap.size _ _ _ _ from by rw [hV]; exact Box4.made w3 27 (.slice A3 x.g.nodes.length c3) (.slice A4 x.g.edges.length c4) (.int .i64 x.g.nn) (.int .i64 x.g.ne))
  have C3 := Lib.hid (C2.out.keep (hb.block _ l2))
  have hVb := Lib.hid hbV
  have K3 := Lib.hid (K2.out.trans ((hb.trans (hbV.mono hb.size)).mono K2.out.size))
  have RO := Lib.hid (hro.below hbV)
  have GO := Lib.hid (hgr.below hbV)
  have s3 := hb.size
  have s4 : w3.heap.size < V.heap.size := by rw [hV]; simp
  clear hb hbV hro hgr C2
  by_cases he : e = 0
  case neg =>
    have hbad := found_bad (r := startD c l) (good := fun _ => true) (by rw [HRR.out]; exact he)
    rw [HRR.out] at hbad
    obtain ⟨ho, hee⟩ := hbad
    simp only at ho hee
    have ho2 : x.order.length = 0 := by rw [ho]; rfl
    rw [ho2]
    rcases hee with rfl | rfl
    · go_wp2
      rw [← hV]
      go_ret
      exact ⟨rfl, K3.out⟩
    · go_wp2
      rw [← hV]
      go_ret
      exact ⟨rfl, K3.out⟩
  subst he
  obtain ⟨f1, f2⟩ := found_law HRR.out
  have F1 := Lib.hid f1
  have F2 := Lib.hid f2
  clear f1 f2
  have hol := found_len HRR.out
  obtain ⟨c0, c1, c2, c3', c4', cf⟩ := C3.out
  have l3 : w.heap.size < w3.heap.size := by omega
  go_wp2_with fail
  rw [← hV]
  clear hV
  refine (order_calls V _ _ c _ l _ x.order (H.out.below K3.out) RO.out hlen HFW.out OK.out hol).mono ?_
  rintro e w4 hp
  rw [F1.out] at hp
  obtain ⟨un, ue, rfl, hgr, hb⟩ := hp
  simp only at hgr ⊢
  obtain ⟨⟨A6, c6, rfl⟩, ⟨A7, c7, rfl⟩⟩ := hgr.slices
  obtain ⟨U, hU⟩ : ∃ U, U = w4.alloc (.cells #[.slice A6 x.g.nodes.length c6, .slice A7 x.g.edges.length c7, .int .i64 x.g.nn, .int .i64 x.g.ne] 27) := ⟨_, rfl⟩
  have hbU : Below w4.heap.size w4 U := by rw [hU]; exact (Below.refl _ w4).alloc (Nat.le_refl _) _
  have hbb : Below V.heap.size V U := hb.trans (hbU.mono hb.size)
  have G4 := Lib.hid (show Box4 U w4.heap.size _ _ _ _ from by rw [hU]; exact Box4.made w4 27 (.slice A6 x.g.nodes.length c6) (.slice A7 x.g.edges.length c7) (.int .i64 x.g.nn) (.int .i64 x.g.ne))
  have C4 := Lib.hid (C3.out.keep ((hb.block _ (by omega)).trans (hVb.out.block _ l3)))
  have G3' := Lib.hid (G3.out.keep (hb.block _ s4))
  have s8 := hb.size
  have hUb := Lib.hid hbU
  have K4 := Lib.hid (K3.out.trans (hbb.mono K3.out.size))
  have RO4 := Lib.hid (RO.out.below hbb)
  have GO4 := Lib.hid (GO.out.below hbb)
  have GH4 := Lib.hid (hgr.below hbU)
  have s5 := hbb.size
  have s6 : w4.heap.size < U.heap.size := by rw [hU]; simp
  clear hb hbU hbb hgr C3 G3 RO GO c0 c1 c2 c3' c4' cf
  obtain ⟨c0, c1, c2, c3', c4', cf⟩ := C4.out
  have l4 : w.heap.size < w4.heap.size := by omega
  obtain ⟨g0, g1, g2, g3, gf⟩ := G3'.out
  have l5 : w3.heap.size < w4.heap.size := by omega
  go_wp2_with fail
  rw [← hU]
  clear hU
  refine (reach_calls U _ _ c _ l x.g _ _ GO4.out (H.out.below K4.out) hlen HFW.out OK.out).mono ?_
  rintro e w5 hp
  rw [F2.out] at hp
  obtain ⟨vp, rfl, hrp, hb⟩ := hp
  simp only at hrp ⊢
  obtain ⟨A8, c8, rfl⟩ := hrp.slice
  have G5 := Lib.hid ((G3'.out.keep (hUb.out.block _ l5)).keep (hb.block _ (by omega)))
  have G6 := Lib.hid (G4.out.keep (hb.block _ s6))
  have K5 := Lib.hid (K4.out.trans (hb.mono K4.out.size))
  have RO5 := Lib.hid (RO4.out.below hb)
  have GO5 := Lib.hid (GO4.out.below hb)
  have GH5 := Lib.hid (GH4.out.below hb)
  have RP5 := Lib.hid hrp
  have s7 := hb.size
  clear hb hrp C4 G3' G4 RO4 GO4 GH4 c0 c1 c2 c3' c4' cf g0 g1 g2 g3 gf
  obtain ⟨g0, g1, g2, g3, gf⟩ := G5.out
  have l6 : w3.heap.size < w5.heap.size := by omega
  obtain ⟨h0, h1, h2, h3, hf⟩ := G6.out
  have l7 : w4.heap.size < w5.heap.size := by omega
  go_wp2_with fail
  refine (same_calls w5 (fun _ => True) x.g x.g _ _ _ _ (GO5.out.mono fun _ _ _ => trivial) (GH5.out.mono fun _ _ _ => trivial)).mono ?_
  rintro e w6 ⟨bb, rfl, hbb, hb⟩
  obtain rfl : bb = true := hbb.2 rfl
  have K6 := Lib.hid (K5.out.trans (hb.mono K5.out.size))
  have RO6 := Lib.hid (RO5.out.below hb)
  have RP6 := Lib.hid (RP5.out.below hb)
  clear hb hbb
  go_wp2_with fail
  refine (same02_calls w6 _ _ _ _ x.order x.order RP6.out RO6.out hol).mono ?_
  rintro e w7 ⟨rfl, hb⟩
  have K7 := Lib.hid (K6.out.trans (hb.mono K6.out.size))
  clear hb
  have hd : decide (x.order = x.order) = true := by simp
  rw [hd]
  go_wp2
  go_ret
  exact ⟨rfl, K7.out⟩
end Go.Proofs.Ytpehmmdbjakkpaa
