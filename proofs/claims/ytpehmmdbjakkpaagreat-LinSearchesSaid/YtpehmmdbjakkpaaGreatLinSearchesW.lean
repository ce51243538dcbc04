/- LinSearches: the first order of any history, and the first one behind which a graph is any one, or that there is none. -/
import Derived.Test.YtpehmmdbjakkpaaGreatRefSM
set_option linter.unusedSimpArgs false
set_option linter.unusedVariables false
namespace Go.Proofs.YtpehmmdbjakkpaaGreat
open Go.RowKit Go.Shelf
theorem first_len {c : CfgD} {l : List EvD} {good : PathD → Bool} {x : PathD} {e : Int} (h : firstD (startD c l) good = (x, e)) : x.order.length ≤ 1000000 := by
 by_cases he : e = 0
 ·
  subst he
  exact found_len h
 ·
  have := found_bad (r := startD c l) (good := good) (by rw [h]; exact he)
  rw [h] at this
  simp only at this
  rw [this.1]
  simp
set_option maxRecDepth 100000 in
set_option maxHeartbeats 16000000 in
theorem linSearches_walk (w : World) (c : CfgD) (v : Value) (l : List EvD) (hr : Row tEv w (fun _ => True) v l) (okl : ∀ x ∈ l, okI x.th) (g : GraphD) (vn ve : Value) (hg : Gr w (fun _ => True) g vn ve) : Calls Tryz.prog 4 #[c.val, v, .agg #[vn, ve, .int .i64 g.nn, .int .i64 g.ne]] w fun e w' => e = .returned (.bool true) ∧ Below w.heap.size w w' := by
 obtain ⟨A, cA, rfl⟩ := hr.slice
 obtain ⟨⟨A3, c3, rfl⟩, ⟨A4, c4, rfl⟩⟩ := hg.slices
 have H := Lib.hid hr
 have HG := Lib.hid hg
 have OK := Lib.hid okl
 clear hr okl hg
 unfold CfgD.val
 obtain ⟨W0, hW⟩ : ∃ W0, W0 = (w.alloc (.cells #[.int .i64 c.nodes, .int .i64 c.edges, .int .i64 c.props, .int .i64 c.ids, .int .i64 c.eids] 23)).alloc (.cells #[.slice A3 g.nodes.length c3, .slice A4 g.edges.length c4, .int .i64 g.nn, .int .i64 g.ne] 31) := ⟨_, rfl⟩
 have K0 := Lib.hid (show Below w.heap.size w W0 by rw [hW]; exact (by repeat (first | exact Below.refl _ _ | refine Below.alloc ?_ (by simp; try omega) _)))
 have s0 : w.heap.size + 1 < W0.heap.size := by rw [hW]; simp
 have C0 := Lib.hid (show Box5 W0 w.heap.size _ _ _ _ _ from by rw [hW]; exact (Box5.made w 23 (.int .i64 c.nodes) (.int .i64 c.edges) (.int .i64 c.props) (.int .i64 c.ids) (.int .i64 c.eids)).keep (Below.heap_alloc _ _ _ (by simp)))
 have G0 := Lib.hid (show Box4 W0 (w.heap.size + 1) (.slice A3 g.nodes.length c3) (.slice A4 g.edges.length c4) (.int .i64 g.nn) (.int .i64 g.ne) from by
  rw [hW]
  have := Box4.made (w.alloc (.cells #[.int .i64 c.nodes, .int .i64 c.edges, .int .i64 c.props, .int .i64 c.ids, .int .i64 c.eids] 23)) 31 (.slice A3 g.nodes.length c3) (.slice A4 g.edges.length c4) (.int .i64 g.nn) (.int .i64 g.ne)
  rw [World.size_alloc] at this
  exact this)
 go_enter Tryz.func4, Tryz.ntmps4
 go_wp2_with fail
 rw [← hW]
 clear hW
 refine (live13_calls W0).mono ?_
 rintro e w1 ⟨rfl, hb⟩
 have K1 := thn K0 hb
 have C1 := Lib.hid (C0.out.keep (hb.block _ (by omega)))
 have G1 := Lib.hid (G0.out.keep (hb.block _ s0))
 have s1 := hb.size
 clear hb C0 G0
 go_wp2_with fail
 rename_i Kr ar K2 a2
 have AR := Lib.hid ar
 have CUT : ∀ {u0 u2 u4 u6 u7 u8 u9 u10 u11 u12 u13 u14 u15 u16 u17 u18 u19 u20 u21 u22 u23 u24 u25 u26 u27 u28 u29 u30 u31 u32 u33 u34 u35 u37 u38 u39 u40 u41 u42 u43 u44 u45 u46 u47 u48 u49 u50 u51 u52 u53 u54 u55 u56 u57 u58 u59 u60 u61 u62 u63 u64 u65 u66 u67 u68 u69 u70 u71 u72 u73 u74 u75 u76 u77 u78 u79 u80 u81 u82 u83 u84 u85 u86 u87 : Value} (w5 : World), l.length ≤ 1000000 → Hid (∀ x ∈ l, x.res.few) → Hid (Below w.heap.size w w5) → Hid (Box5 w5 w.heap.size (.int .i64 c.nodes) (.int .i64 c.edges) (.int .i64 c.props) (.int .i64 c.ids) (.int .i64 c.eids)) → Hid (Box4 w5 (w.heap.size + 1) (.slice A3 g.nodes.length c3) (.slice A4 g.edges.length c4) (.int .i64 g.nn) (.int .i64 g.ne)) → w.heap.size + 1 < w5.heap.size → Kr {tmps := (u0 :: .slice A l.length cA :: u2 :: .pointer (some ⟨w.heap.size, 0, none⟩) :: u4 :: .pointer (some ⟨w.heap.size + 1, 0, none⟩) :: u6 :: u7 :: u8 :: u9 :: u10 :: u11 :: u12 :: u13 :: u14 :: u15 :: u16 :: u17 :: u18 :: u19 :: u20 :: u21 :: u22 :: u23 :: u24 :: u25 :: u26 :: u27 :: u28 :: u29 :: u30 :: u31 :: u32 :: u33 :: u34 :: u35 :: .bool false :: u37 :: u38 :: u39 :: u40 :: u41 :: u42 :: u43 :: u44 :: u45 :: u46 :: u47 :: u48 :: u49 :: u50 :: u51 :: u52 :: u53 :: u54 :: u55 :: u56 :: u57 :: u58 :: u59 :: u60 :: u61 :: u62 :: u63 :: u64 :: u65 :: u66 :: u67 :: u68 :: u69 :: u70 :: u71 :: u72 :: u73 :: u74 :: u75 :: u76 :: u77 :: u78 :: u79 :: u80 :: u81 :: u82 :: u83 :: u84 :: u85 :: u86 :: u87 :: []).toArray, defers := []} w5 := by
  intro u0 u2 u4 u6 u7 u8 u9 u10 u11 u12 u13 u14 u15 u16 u17 u18 u19 u20 u21 u22 u23 u24 u25 u26 u27 u28 u29 u30 u31 u32 u33 u34 u35 u37 u38 u39 u40 u41 u42 u43 u44 u45 u46 u47 u48 u49 u50 u51 u52 u53 u54 u55 u56 u57 u58 u59 u60 u61 u62 u63 u64 u65 u66 u67 u68 u69 u70 u71 u72 u73 u74 u75 u76 u77 u78 u79 u80 u81 u82 u83 u84 u85 u86 u87 w5 hlen HFW K5 C5 G5 l5
  refine AR.out _ _ ?_
  clear AR K1 C1 G1 K0
  obtain ⟨x0, x1, x2, x3, x4, xf⟩ := C5.out
  have l5' : w.heap.size < w5.heap.size := by omega
  go_wp2_with fail
  refine (search_calls w5 _ c _ l (H.out.below K5.out) hlen HFW.out OK.out).mono ?_
  rintro e w6 hp
  obtain ⟨r, hrr⟩ : ∃ r, r = firstD (startD c l) fun _ => true := ⟨_, rfl⟩
  have HRR := Lib.hid hrr.symm
  rw [← hrr] at hp
  clear hrr
  obtain ⟨x, ex⟩ := r
  obtain ⟨vo, un, ue, rfl, hro, hgr, hb⟩ := hp
  simp only at hro hgr ⊢
  obtain ⟨⟨A5, c5, rfl⟩, ⟨A6, c6, rfl⟩⟩ := hgr.slices
  obtain ⟨A7, c7, rfl⟩ := hro.slice
  obtain ⟨V, hV⟩ : ∃ V, V = w6.alloc (.cells #[.slice A5 x.g.nodes.length c5, .slice A6 x.g.edges.length c6, .int .i64 x.g.nn, .int .i64 x.g.ne] 31) := ⟨_, rfl⟩
  have hbV : Below w6.heap.size w6 V := by rw [hV]; exact (Below.refl _ w6).alloc (Nat.le_refl _) _
  have GA := Lib.hid (show Box4 V w6.heap.size _ _ _ _ from by rw [hV]; exact Box4.made w6 31 (.slice A5 x.g.nodes.length c5) (.slice A6 x.g.edges.length c6) (.int .i64 x.g.nn) (.int .i64 x.g.ne))
  have C6 := Lib.hid (C5.out.keep (hb.block _ l5'))
  have G6 := Lib.hid (G5.out.keep (hb.block _ l5))
  have K6 := Lib.hid (K5.out.trans ((hb.trans (hbV.mono hb.size)).mono K5.out.size))
  have ROA := Lib.hid (hro.below hbV)
  have GOA := Lib.hid (hgr.below hbV)
  have HVb := Lib.hid hbV
  have s6 := hb.size
  have s6V : w6.heap.size < V.heap.size := by rw [hV]; simp
  clear hb hbV hro hgr C5 G5 x0 x1 x2 x3 x4 xf
  obtain ⟨x0, x1, x2, x3, x4, xf⟩ := C6.out
  have l6 : w.heap.size + 1 < w6.heap.size := by omega
  have l6' : w.heap.size < w6.heap.size := by omega
  go_wp2_with fail
  rw [← hV]
  clear hV
  refine (rsearch_calls V c _ l (H.out.below K6.out) hlen OK.out).mono ?_
  rintro e w7 hp
  rw [HRR.out] at hp
  obtain ⟨vo, un, ue, rfl, hro, hgr, hb⟩ := hp
  simp only at hro hgr ⊢
  obtain ⟨⟨A8, c8, rfl⟩, ⟨A9, c9, rfl⟩⟩ := hgr.slices
  obtain ⟨A10, c10, rfl⟩ := hro.slice
  obtain ⟨U, hU⟩ : ∃ U, U = w7.alloc (.cells #[.slice A8 x.g.nodes.length c8, .slice A9 x.g.edges.length c9, .int .i64 x.g.nn, .int .i64 x.g.ne] 31) := ⟨_, rfl⟩
  have hbU : Below w7.heap.size w7 U := by rw [hU]; exact (Below.refl _ w7).alloc (Nat.le_refl _) _
  have hVU : Below V.heap.size V U := hb.trans (hbU.mono hb.size)
  have GB := Lib.hid (show Box4 U w7.heap.size _ _ _ _ from by rw [hU]; exact Box4.made w7 31 (.slice A8 x.g.nodes.length c8) (.slice A9 x.g.edges.length c9) (.int .i64 x.g.nn) (.int .i64 x.g.ne))
  have h6V : ∀ j, j < w6.heap.size → w7.heap[j]? = w6.heap[j]? := fun j hj => (hb.block _ (by omega)).trans (HVb.out.block _ hj)
  have C7 := Lib.hid (C6.out.keep (h6V _ l6'))
  have G7 := Lib.hid (G6.out.keep (h6V _ l6))
  have GA7 := Lib.hid (GA.out.keep (hVU.block _ s6V))
  have K7 := thn K6 hVU
  have ROA7 := Lib.hid (ROA.out.below hVU)
  have GOA7 := Lib.hid (GOA.out.below hVU)
  have ROB := Lib.hid (hro.below hbU)
  have GOB := Lib.hid (hgr.below hbU)
  have HUb := Lib.hid hbU
  have s7 := hb.size
  have s7U : w7.heap.size < U.heap.size := by rw [hU]; simp
  clear hb hbU hVU hro hgr h6V C6 G6 GA ROA GOA x0 x1 x2 x3 x4 xf
  obtain ⟨x0, x1, x2, x3, x4, xf⟩ := C7.out
  obtain ⟨g0, g1, g2, g3, gf⟩ := G7.out
  have l7 : w.heap.size + 1 < w7.heap.size := by omega
  have l7' : w.heap.size < w7.heap.size := by omega
  go_wp2_with fail
  rw [← hU]
  clear hU
  refine (reach_calls U _ _ c _ l g _ _ (HG.out.below K7.out) (H.out.below K7.out) hlen HFW.out OK.out).mono ?_
  rintro e w8 hp
  obtain ⟨r, hrr⟩ : ∃ r, r = firstD (startD c l) (reachB g) := ⟨_, rfl⟩
  have HRQ := Lib.hid hrr.symm
  rw [← hrr] at hp
  clear hrr
  obtain ⟨y, ey⟩ := r
  obtain ⟨vp, rfl, hrp, hb⟩ := hp
  simp only at hrp ⊢
  obtain ⟨A11, c11, rfl⟩ := hrp.slice
  have h7U : ∀ j, j < w7.heap.size → w8.heap[j]? = w7.heap[j]? := fun j hj => (hb.block _ (by omega)).trans (HUb.out.block _ hj)
  have C8 := Lib.hid (C7.out.keep (h7U _ l7'))
  have G8 := Lib.hid (G7.out.keep (h7U _ l7))
  have GA8 := Lib.hid (GA7.out.keep (hb.block _ (by omega)))
  have GB8 := Lib.hid (GB.out.keep (hb.block _ s7U))
  have K8 := thn K7 hb
  have ROA8 := Lib.hid (ROA7.out.below hb)
  have GOA8 := Lib.hid (GOA7.out.below hb)
  have ROB8 := Lib.hid (ROB.out.below hb)
  have GOB8 := Lib.hid (GOB.out.below hb)
  have RPA := Lib.hid hrp
  have s8 := hb.size
  clear hb hrp h7U C7 G7 GA7 GB ROA7 GOA7 ROB GOB x0 x1 x2 x3 x4 xf g0 g1 g2 g3 gf
  obtain ⟨x0, x1, x2, x3, x4, xf⟩ := C8.out
  obtain ⟨g0, g1, g2, g3, gf⟩ := G8.out
  have l8 : w.heap.size + 1 < w8.heap.size := by omega
  have l8' : w.heap.size < w8.heap.size := by omega
  go_wp2_with fail
  refine (rreach_calls w8 _ c _ l g _ _ (HG.out.below K8.out) (H.out.below K8.out) hlen OK.out).mono ?_
  rintro e w9 hp
  rw [HRQ.out] at hp
  obtain ⟨vq, rfl, hrq, hb⟩ := hp
  simp only at hrq ⊢
  obtain ⟨A12, c12, rfl⟩ := hrq.slice
  have GA9 := Lib.hid (GA8.out.keep (hb.block _ (by omega)))
  have GB9 := Lib.hid (GB8.out.keep (hb.block _ (by omega)))
  have K9 := thn K8 hb
  have ROA9 := Lib.hid (ROA8.out.below hb)
  have GOA9 := Lib.hid (GOA8.out.below hb)
  have ROB9 := Lib.hid (ROB8.out.below hb)
  have GOB9 := Lib.hid (GOB8.out.below hb)
  have RPA9 := Lib.hid (RPA.out.below hb)
  have RPB9 := Lib.hid hrq
  have s9 := hb.size
  clear hb hrq C8 G8 GA8 GB8 ROA8 GOA8 ROB8 GOB8 RPA x0 x1 x2 x3 x4 xf g0 g1 g2 g3 gf
  have hxl := first_len HRR.out
  have hyl := first_len HRQ.out
  go_wp2_with fail
  refine (same02_calls w9 _ _ _ _ x.order x.order ROA9.out ROB9.out hxl).mono ?_
  rintro e wa ⟨rfl, hb⟩
  have hd : decide (x.order = x.order) = true := by simp
  rw [hd]
  have GAa := Lib.hid (GA9.out.keep (hb.block _ (by omega)))
  have GBa := Lib.hid (GB9.out.keep (hb.block _ (by omega)))
  have Ka := thn K9 hb
  have GOAa := Lib.hid (GOA9.out.below hb)
  have GOBa := Lib.hid (GOB9.out.below hb)
  have RPAa := Lib.hid (RPA9.out.below hb)
  have RPBa := Lib.hid (RPB9.out.below hb)
  have sa := hb.size
  clear hb hd GA9 GB9 ROA9 ROB9 GOA9 GOB9 RPA9 RPB9
  obtain ⟨g0, g1, g2, g3, gf⟩ := GAa.out
  obtain ⟨h0, h1, h2, h3, hf⟩ := GBa.out
  have la : w6.heap.size < wa.heap.size := by omega
  have lb : w7.heap.size < wa.heap.size := by omega
  go_wp2_with fail
  refine (refSameB_calls wa (fun _ => True) x.g x.g _ _ _ _ (GOAa.out.mono fun _ _ _ => trivial) (GOBa.out.mono fun _ _ _ => trivial)).mono ?_
  rintro e wb ⟨bb, rfl, hbb, hb⟩
  obtain rfl : bb = true := hbb.2 rfl
  have Kb := thn Ka hb
  have RPAb := Lib.hid (RPAa.out.below hb)
  have RPBb := Lib.hid (RPBa.out.below hb)
  clear hb hbb GAa GBa g0 g1 g2 g3 gf h0 h1 h2 h3 hf
  go_wp2_with fail
  refine (same02_calls wb _ _ _ _ y.order y.order RPAb.out RPBb.out hyl).mono ?_
  rintro e wc ⟨rfl, hb⟩
  have hd : decide (y.order = y.order) = true := by simp
  rw [hd]
  have Kc := thn Kb hb
  clear hb hd
  go_wp2
  go_ret
  exact ⟨rfl, Kc.out⟩
 have HCUT := @Lib.hid _ @CUT
 clear CUT AR
 refine (few12_calls w1 _ _ l 60 (H.out.below K1.out)).mono ?_
 rintro e w2 ⟨rfl, hb⟩
 have K2 := thn K1 hb
 have C2 := Lib.hid (C1.out.keep (hb.block _ (by omega)))
 have G2 := Lib.hid (G1.out.keep (hb.block _ (by omega)))
 have s2 := hb.size
 clear hb C1 G1
 cases hf : fewOf l 60
 case false =>
  clear hf
  go_wp2
  go_ret
  exact ⟨rfl, K2.out⟩
 obtain ⟨hfew, hlen⟩ := few12_ok (by omega) hf
 have hlen60 : l.length ≤ 60 := by
  unfold fewOf at hf
  simp only [Bool.and_eq_true, decide_eq_true_eq] at hf
  omega
 have HFW := Lib.hid hfew
 clear hf hfew
 obtain ⟨g0, g1, g2, g3, gf⟩ := G2.out
 have l2 : w.heap.size + 1 < w2.heap.size := by omega
 go_wp2_with fail
 refine (few_calls w2 _ g _ _ (HG.out.below K2.out)).mono ?_
 rintro e w3 ⟨fb, rfl, _, hb⟩
 have K3 := thn K2 hb
 have C3 := Lib.hid (C2.out.keep (hb.block _ (by omega)))
 have G3 := Lib.hid (G2.out.keep (hb.block _ l2))
 have s3 := hb.size
 clear hb C2 G2 g0 g1 g2 g3 gf
 cases fb with
 | false =>
  go_wp2
  go_ret
  exact ⟨rfl, K3.out⟩
 | true =>
 have hmle := manyN_le l
 obtain ⟨m, hm⟩ : ∃ m, m = manyN l := ⟨_, rfl⟩
 rw [← hm] at hmle
 have HM := Lib.hid hm
 clear hm
 go_wp2_with fail
 refine (many_calls w3 _ _ l (H.out.below K3.out) hlen).mono ?_
 rintro e w4 ⟨rfl, hb⟩
 rw [← HM.out]
 have K4 := thn K3 hb
 have C4 := Lib.hid (C3.out.keep (hb.block _ (by omega)))
 have G4 := Lib.hid (G3.out.keep (hb.block _ (by omega)))
 have s4 := hb.size
 clear hb C3 G3
 by_cases h7 : 7 < (m : Int)
 case pos =>
  go_wp2_with fail
  refine (many_calls w4 _ _ l (H.out.below K4.out) hlen).mono ?_
  rintro e w5 ⟨rfl, hb⟩
  rw [← HM.out]
  have K5 := thn K4 hb
  have C5 := Lib.hid (C4.out.keep (hb.block _ (by omega)))
  have G5 := Lib.hid (G4.out.keep (hb.block _ (by omega)))
  have s5 := hb.size
  clear hb C4 G4
  by_cases h10 : (m : Int) ≤ 10
  ·
   go_wp2
   go_ret
   exact ⟨rfl, K5.out⟩
  have d1 : ¬ m ≤ 10 := by omega
  have d2 : decide (m ≤ 10) = false := by simpa using d1
  have d3 : decide ((m : Int) ≤ 10) = false := by simpa using h10
  clear ar
  go_wp2
  exact HCUT.out w5 hlen HFW.out K5.out C5.out G5.out (by omega)
 clear ar
 go_wp2
 exact HCUT.out w4 hlen HFW.out K4.out C4.out G4.out (by omega)

end Go.Proofs.YtpehmmdbjakkpaaGreat
