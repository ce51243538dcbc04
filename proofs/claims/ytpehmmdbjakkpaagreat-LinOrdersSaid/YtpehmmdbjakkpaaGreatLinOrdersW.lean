/- LinOrders: what any order of any history comes to, or that it is none. -/
import Derived.Test.YtpehmmdbjakkpaaGreatRefO
import Derived.Test.YtpehmmdbjakkpaaGreatRefSameB
namespace Go.Proofs.YtpehmmdbjakkpaaGreat
open Go.RowKit Go.Shelf
set_option linter.unusedSimpArgs false
set_option linter.unusedVariables false
set_option maxRecDepth 100000 in
set_option maxHeartbeats 16000000 in
theorem linOrders_walk (w : World) (c : CfgD) (v : Value) (l : List EvD) (hr : Row tEv w (fun _ => True) v l) (okl : ∀ x ∈ l, okI x.th) (u : Value) (order : List Int) (ho : Row tInt w (fun _ => True) u order) (oko : ∀ x ∈ order, okI x) : Calls Tryz.prog 3 #[c.val, v, u] w fun e w' => e = .returned (.bool true) ∧ Below w.heap.size w w' := by
 obtain ⟨A, cA, rfl⟩ := hr.slice
 obtain ⟨AO, cO, rfl⟩ := ho.slice
 obtain ⟨n, hn⟩ : ∃ n, n = order.length := ⟨_, rfl⟩
 have hm2 := ho.len
 unfold maxLen at hm2
 rw [← hn] at ho hm2 ⊢
 have HN := Lib.hid hn
 have H := Lib.hid hr
 have HO := Lib.hid ho
 have OK := Lib.hid okl
 clear hr okl ho oko hn
 unfold CfgD.val
 obtain ⟨W0, hW⟩ : ∃ W0, W0 = w.alloc (.cells #[.int .i64 c.nodes, .int .i64 c.edges, .int .i64 c.props, .int .i64 c.ids, .int .i64 c.eids] 23) := ⟨_, rfl⟩
 have K0 := Lib.hid (show Below w.heap.size w W0 by rw [hW]; exact (Below.refl _ w).alloc (Nat.le_refl _) _)
 have s0 : w.heap.size < W0.heap.size := by rw [hW]; simp
 have C0 := Lib.hid (show Box5 W0 w.heap.size _ _ _ _ _ from Box5.of (n := 23) (by rw [hW]; exact heap_alloc_new w _))
 go_enter Tryz.func3, Tryz.ntmps3
 go_wp2_with fail
 rw [← hW]
 clear hW
 refine (live13_calls W0).mono ?_
 rintro e w1 ⟨rfl, hb⟩
 have K1 := Lib.hid (K0.out.trans (hb.mono K0.out.size))
 have C1 := Lib.hid (C0.out.keep (hb.block _ s0))
 have s1 := hb.size
 clear hb C0
 go_wp2_with fail
 refine (few12_calls w1 _ _ l 60 (H.out.below K1.out)).mono ?_
 rintro e w2 ⟨rfl, hb⟩
 have K2 := Lib.hid (K1.out.trans (hb.mono K1.out.size))
 have C2 := Lib.hid (C1.out.keep (hb.block _ (by omega)))
 have s2 := hb.size
 clear hb C1
 cases hf : fewOf l 60
 case false =>
  clear hf
  go_wp2
  go_ret
  exact ⟨rfl, K2.out⟩
 obtain ⟨hfew, hlen⟩ := few12_ok (by omega) hf
 have HFW := Lib.hid hfew
 clear hf hfew
 by_cases n1 : 60 < (n : Int)
 ·
  go_wp2
  go_ret
  exact ⟨rfl, K2.out⟩
 have hn60 : n ≤ 60 := by omega
 obtain ⟨c0, c1, c2, c3, c4, cf⟩ := C2.out
 have l2 : w.heap.size < w2.heap.size := by omega
 go_wp2_with fail
 refine (order_calls w2 _ _ c _ l _ order (H.out.below K2.out) (HO.out.below K2.out) hlen HFW.out OK.out (by have := HN.out; omega)).mono ?_
 rintro e w3 hp
 obtain ⟨r, hrr⟩ : ∃ r, r = orderD c l order := ⟨_, rfl⟩
 have HRR := Lib.hid hrr.symm
 rw [← hrr] at hp
 clear hrr
 obtain ⟨g, e⟩ := r
 obtain ⟨vn, ve, rfl, hgr, hb⟩ := hp
 simp only at hgr ⊢
 obtain ⟨⟨A3, c3', rfl⟩, ⟨A4, c4', rfl⟩⟩ := hgr.slices
 obtain ⟨V, hV⟩ : ∃ V, V = w3.alloc (.cells #[.slice A3 g.nodes.length c3', .slice A4 g.edges.length c4', .int .i64 g.nn, .int .i64 g.ne] 31) := ⟨_, rfl⟩
 have hbV : Below w3.heap.size w3 V := by rw [hV]; exact (Below.refl _ w3).alloc (Nat.le_refl _) _
 have G3 := Lib.hid (show Box4 V w3.heap.size _ _ _ _ from by rw [hV]; exact Box4.made w3 31 (.slice A3 g.nodes.length c3') (.slice A4 g.edges.length c4') (.int .i64 g.nn) (.int .i64 g.ne))
 have C3 := Lib.hid (C2.out.keep (hb.block _ l2))
 have K3 := Lib.hid (K2.out.trans ((hb.trans (hbV.mono hb.size)).mono K2.out.size))
 have GO := Lib.hid (hgr.below hbV)
 have s3 := hb.size
 have s4 : w3.heap.size < V.heap.size := by rw [hV]; simp
 clear hb hbV hgr C2 c0 c1 c2 c3 c4 cf
 obtain ⟨c0, c1, c2, c3, c4, cf⟩ := C3.out
 have l3 : w.heap.size < w3.heap.size := by omega
 go_wp2_with fail
 rw [← hV]
 clear hV
 refine (rorder_calls V _ c _ l _ order (H.out.below K3.out) (HO.out.below K3.out) hlen OK.out (by have := HN.out; omega)).mono ?_
 rintro e' w4 hp
 rw [HRR.out] at hp
 obtain ⟨un, ue, rfl, hgr, hb⟩ := hp
 simp only at hgr ⊢
 obtain ⟨⟨A6, c6, rfl⟩, ⟨A7, c7, rfl⟩⟩ := hgr.slices
 have G4 := Lib.hid (G3.out.keep (hb.block _ s4))
 have GO4 := Lib.hid (GO.out.below hb)
 have GH4 := Lib.hid hgr
 have K4 := Lib.hid (K3.out.trans (hb.mono K3.out.size))
 have s5 := hb.size
 have l4 : w3.heap.size < w4.heap.size := by omega
 clear hb hgr c0 c1 c2 c3 c4 cf C3 G3 GO
 obtain ⟨g0, g1, g2, g3, gf⟩ := G4.out
 obtain ⟨U, hU⟩ : ∃ U, U = w4.alloc (.cells #[.slice A6 g.nodes.length c6, .slice A7 g.edges.length c7, .int .i64 g.nn, .int .i64 g.ne] 31) := ⟨_, rfl⟩
 have hbU : Below w4.heap.size w4 U := by rw [hU]; exact (Below.refl _ w4).alloc (Nat.le_refl _) _
 have K5 := Lib.hid (K4.out.trans (hbU.mono K4.out.size))
 have GO5 := Lib.hid (GO4.out.below hbU)
 have GH5 := Lib.hid (GH4.out.below hbU)
 go_wp2_with fail
 rw [← hU]
 clear hU hbU
 refine (refSameB_calls U (fun _ => True) g g _ _ _ _ (GO5.out.mono fun _ _ _ => trivial) (GH5.out.mono fun _ _ _ => trivial)).mono ?_
 rintro e' w6 ⟨bb, rfl, hbb, hb⟩
 obtain rfl : bb = true := hbb.2 rfl
 have K6 := Lib.hid (K5.out.trans (hb.mono K5.out.size))
 clear hb hbb g0 g1 g2 g3 gf
 go_wp2
 go_ret
 exact ⟨rfl, K6.out⟩

end Go.Proofs.YtpehmmdbjakkpaaGreat
