/- ApplyDoes: any operation done on any graph that may be, and what record it takes; it stays as it was. -/
import Derived.Test.YtpehmmdbjakkpaaLiveA
import Derived.Test.YtpehmmdbjakkpaaRefSameB
import Derived.Test.YtpehmmdbjakkpaaSameB
namespace Go.Proofs.Ytpehmmdbjakkpaa
open Go.RowKit Go.Shelf
set_option linter.unusedSimpArgs false
set_option linter.unusedVariables false
set_option maxRecDepth 100000 in
set_option maxHeartbeats 16000000 in
theorem applyDoes_walk (w : World) (c : CfgD) (g : GraphD) (vn ve : Value) (hg : Gr w (fun _ => True) g vn ve) (o : OpD) : Calls Try.prog 10 #[c.val, .agg #[vn, ve, .int .i64 g.nn, .int .i64 g.ne], o.val] w fun e w' => e = .returned (.bool true) ∧ Below w.heap.size w w' := by
  obtain ⟨⟨A1, c1, rfl⟩, ⟨A2, c2, rfl⟩⟩ := hg.slices
  obtain ⟨W0, hW⟩ : ∃ W0, W0 = ((w.alloc (.cells #[.int .i64 c.nodes, .int .i64 c.edges, .int .i64 c.props, .int .i64 c.ids, .int .i64 c.eids] 23)).alloc (.cells #[.slice A1 g.nodes.length c1, .slice A2 g.edges.length c2, .int .i64 g.nn, .int .i64 g.ne] 27)).alloc (.cells #[.int .i64 o.k, .int .i64 o.a, .int .i64 o.b, .int .i64 o.p, .int .i64 o.v] 73) := ⟨_, rfl⟩
  obtain ⟨hc0, s0⟩ := cgo_made w _ c g _ _ o hg W0 hW
  have C0 := Lib.hid hc0
  clear hg hc0 s0
  unfold OpD.val CfgD.val
  go_enter Try.func10, Try.ntmps10
  go_wp2_with fail
  rw [← hW]
  clear hW
  refine (live11_calls W0).mono ?_
  rintro e w1 ⟨rfl, hb⟩
  have C1 := Lib.hid (C0.out.below hb)
  have s1 := C1.out.hl
  clear hb C0
  obtain ⟨x0, x1, x2, x3, xf⟩ := C1.out.bg
  obtain ⟨d0, d1, d2, d3, d4, df⟩ := C1.out.cf
  have g1 : w.heap.size < w1.heap.size := by omega
  have g2 : w.heap.size + 1 < w1.heap.size := by omega
  go_wp2_with fail
  refine (may11_calls w1 _ c g _ _ C1.out.hg).mono ?_
  rintro e w2 ⟨b, rfl, hmay, hb⟩
  have C2 := Lib.hid (C1.out.below hb)
  have s2 := C2.out.hl
  clear hb C1 x0 x1 x2 x3 xf d0 d1 d2 d3 d4 df g1 g2 s1
  cases b
  case false =>
    go_wp2
    go_ret
    exact ⟨rfl, C2.out.K⟩
  obtain ⟨hfew, hm⟩ := hmay rfl
  have HS := Lib.hid (hm.start hfew)
  have HR := Lib.hid (HS.out.rdy hm.head.cfg)
  clear hfew hm hmay
  have g1 : w.heap.size < w2.heap.size := by omega
  have g2 : w.heap.size + 1 < w2.heap.size := by omega
  have g3 : w.heap.size + 1 + 1 < w2.heap.size := by omega
  obtain ⟨x0, x1, x2, x3, xf⟩ := C2.out.bg
  obtain ⟨d0, d1, d2, d3, d4, df⟩ := C2.out.cf
  obtain ⟨o0, o1, o2, o3, o4, of⟩ := C2.out.op
  go_wp2_with fail
  refine (copy_calls w2 _ g _ _ C2.out.hg HR.out.small).mono ?_
  rintro e w3 ⟨vn, ve, rfl, hg, hb⟩
  obtain ⟨⟨A3, L3, c3, rfl⟩, B3, M3, e3, rfl⟩ := hg.sl3
  obtain ⟨U3, hV⟩ : ∃ V, V = w3.alloc (.cells #[.slice A3 L3 c3, .slice B3 M3 e3, .int .i64 g.nn, .int .i64 g.ne] 27) := ⟨_, rfl⟩
  have hbv : Below w3.heap.size w3 U3 := by rw [hV]; exact (Below.refl _ w3).alloc (Nat.le_refl _) _
  have sv : w3.heap.size < U3.heap.size := by rw [hV]; simp
  have BG3 := Lib.hid (show Box4 U3 w3.heap.size _ _ _ _ from by rw [hV]; exact Box4.made w3 27 _ _ _ _)
  have C3 := Lib.hid (C2.out.below hb)
  have CU := Lib.hid (C3.out.below hbv)
  have G3 := Lib.hid ((hg.below hbv).mono (S' := fun _ => True) fun _ _ _ => trivial)
  have ss3 := hb.size
  clear hg hb hbv x0 x1 x2 x3 xf d0 d1 d2 d3 d4 df o0 o1 o2 o3 o4 of g1 g2 g3 C2
  obtain ⟨x0, x1, x2, x3, xf⟩ := C3.out.bg
  obtain ⟨d0, d1, d2, d3, d4, df⟩ := C3.out.cf
  obtain ⟨o0, o1, o2, o3, o4, of⟩ := C3.out.op
  have g0 := C3.out.hl
  have g1 : w.heap.size < w3.heap.size := by omega
  have g2 : w.heap.size + 1 < w3.heap.size := by omega
  have g3 : w.heap.size + 1 + 1 < w3.heap.size := by omega
  go_wp2_with fail
  rw [← hV]
  clear hV x0 x1 x2 x3 xf d0 d1 d2 d3 d4 df o0 o1 o2 o3 o4 of g1 g2 g3 g0 C3
  have HD := Lib.hid (show takesOf c g o = takesOf c g o from rfl)
  refine (do_calls U3 _ c g _ _ o CU.out.hg HR.out).mono ?_
  rintro e w4 hp
  obtain ⟨A4, L4, c4, B4, M4, e4, p4, q4, r4, s4, t4, u4, rfl, hz, hr, hb⟩ := do_slices hp
  clear hp
  obtain ⟨dd, hdd⟩ : ∃ d, d = doOf c g o := ⟨_, rfl⟩
  rw [← hdd] at hz hr ⊢
  have HDD := Lib.hid hdd
  clear hdd
  obtain ⟨z, r⟩ := dd
  simp only at hz hr ⊢
  have C4 := Lib.hid (CU.out.below hb)
  have ss4 := hb.size
  obtain ⟨x0, x1, x2, x3, xf⟩ := C4.out.bg
  obtain ⟨d0, d1, d2, d3, d4, df⟩ := C4.out.cf
  obtain ⟨o0, o1, o2, o3, o4, of⟩ := C4.out.op
  have g0 := C4.out.hl
  have g1 : w.heap.size < w4.heap.size := by omega
  have g2 : w.heap.size + 1 < w4.heap.size := by omega
  have g3 : w.heap.size + 1 + 1 < w4.heap.size := by omega
  obtain ⟨U4, hV⟩ : ∃ V, V = (w4.alloc (.cells #[.slice A4 L4 c4, .slice B4 M4 e4, .int .i64 z.nn, .int .i64 z.ne] 27)).alloc (.cells #[.int .i64 r.st, .int .i64 r.id, .slice p4 r.ps.length q4, .slice r4 r.os.length s4, .slice t4 r.is.length u4] 75) := ⟨_, rfl⟩
  have hbv : Below w4.heap.size w4 U4 := by rw [hV]; exact (by repeat (first | (with_reducible exact Below.refl _ _) | (with_reducible exact Below.refl _ _) | (with_reducible refine Below.drew ?_) | (with_reducible refine Below.alloc ?_ (by simp; try omega) _) | (with_reducible refine Below.setCell ?_ (by simp; try omega) _)))
  have sv : w4.heap.size + 1 < U4.heap.size := by rw [hV]; simp
  have BG4 := Lib.hid (show Box4 U4 w4.heap.size _ _ _ _ from by rw [hV]; exact (Box4.made w4 27 _ _ _ _).keep (Below.heap_alloc _ _ _ (by simp)))
  have BR4 := Lib.hid (show Box5 U4 (w4.heap.size + 1) _ _ _ _ _ from Box5.of (n := 75) (by
    rw [hV]
    have := heap_alloc_new (w4.alloc (.cells #[.slice A4 L4 c4, .slice B4 M4 e4, .int .i64 z.nn, .int .i64 z.ne] 27)) (.cells #[.int .i64 r.st, .int .i64 r.id, .slice p4 r.ps.length q4, .slice r4 r.os.length s4, .slice t4 r.is.length u4] 75)
    rw [World.size_alloc] at this
    exact this))
  have CV := Lib.hid ((CU.out.below hb).below hbv)
  have G4 := Lib.hid ((hz.below hbv).mono (S' := fun _ => True) fun _ _ _ => trivial)
  have R4 := Lib.hid ((hr.below hbv).mono (S' := fun _ => True) fun _ _ _ => trivial)
  have sw := hb.size
  replace BG3 := Lib.hid ((BG3.out.keep (hb.block _ (by omega))).keep (hbv.block _ (by omega)))
  replace G3 := Lib.hid ((G3.out.below hb).below hbv)
  clear hz hr hb hbv x0 x1 x2 x3 xf d0 d1 d2 d3 d4 df o0 o1 o2 o3 o4 of g1 g2 g3
  have sv2 : w4.heap.size < U4.heap.size := by omega
  obtain ⟨x0, x1, x2, x3, xf⟩ := C4.out.bg
  obtain ⟨d0, d1, d2, d3, d4, df⟩ := C4.out.cf
  obtain ⟨o0, o1, o2, o3, o4, of⟩ := C4.out.op
  have g0 := C4.out.hl
  have g1 : w.heap.size < w4.heap.size := by omega
  have g2 : w.heap.size + 1 < w4.heap.size := by omega
  have g3 : w.heap.size + 1 + 1 < w4.heap.size := by omega
  go_wp2_with fail
  rw [← hV]
  clear hV x0 x1 x2 x3 xf d0 d1 d2 d3 d4 df o0 o1 o2 o3 o4 of g1 g2 g3 g0 C4 CU
  refine (refDo_calls U4 _ c g _ _ o CV.out.hg HR.out).mono ?_
  rintro e w5 hp
  obtain ⟨A5, L5, c5, B5, M5, e5, p5, q5, r5, s5, t5, u5, rfl, hz, hr, hb⟩ := do_slices hp
  clear hp
  rw [← HDD.out] at hz hr ⊢
  simp only at hz hr ⊢
  have C5 := Lib.hid (CV.out.below hb)
  have ss5 := hb.size
  obtain ⟨x0, x1, x2, x3, xf⟩ := C5.out.bg
  obtain ⟨d0, d1, d2, d3, d4, df⟩ := C5.out.cf
  obtain ⟨o0, o1, o2, o3, o4, of⟩ := C5.out.op
  have g0 := C5.out.hl
  have g1 : w.heap.size < w5.heap.size := by omega
  have g2 : w.heap.size + 1 < w5.heap.size := by omega
  have g3 : w.heap.size + 1 + 1 < w5.heap.size := by omega
  obtain ⟨U5, hV⟩ : ∃ V, V = (w5.alloc (.cells #[.slice A5 L5 c5, .slice B5 M5 e5, .int .i64 z.nn, .int .i64 z.ne] 27)).alloc (.cells #[.int .i64 r.st, .int .i64 r.id, .slice p5 r.ps.length q5, .slice r5 r.os.length s5, .slice t5 r.is.length u5] 75) := ⟨_, rfl⟩
  have hbv : Below w5.heap.size w5 U5 := by rw [hV]; exact (by repeat (first | (with_reducible exact Below.refl _ _) | (with_reducible exact Below.refl _ _) | (with_reducible refine Below.drew ?_) | (with_reducible refine Below.alloc ?_ (by simp; try omega) _) | (with_reducible refine Below.setCell ?_ (by simp; try omega) _)))
  have sv : w5.heap.size + 1 < U5.heap.size := by rw [hV]; simp
  have BG5 := Lib.hid (show Box4 U5 w5.heap.size _ _ _ _ from by rw [hV]; exact (Box4.made w5 27 _ _ _ _).keep (Below.heap_alloc _ _ _ (by simp)))
  have BR5 := Lib.hid (show Box5 U5 (w5.heap.size + 1) _ _ _ _ _ from Box5.of (n := 75) (by
    rw [hV]
    have := heap_alloc_new (w5.alloc (.cells #[.slice A5 L5 c5, .slice B5 M5 e5, .int .i64 z.nn, .int .i64 z.ne] 27)) (.cells #[.int .i64 r.st, .int .i64 r.id, .slice p5 r.ps.length q5, .slice r5 r.os.length s5, .slice t5 r.is.length u5] 75)
    rw [World.size_alloc] at this
    exact this))
  have CX := Lib.hid ((CV.out.below hb).below hbv)
  have G5 := Lib.hid ((hz.below hbv).mono (S' := fun _ => True) fun _ _ _ => trivial)
  have R5 := Lib.hid ((hr.below hbv).mono (S' := fun _ => True) fun _ _ _ => trivial)
  have sw := hb.size
  replace BG3 := Lib.hid ((BG3.out.keep (hb.block _ (by omega))).keep (hbv.block _ (by omega)))
  replace G3 := Lib.hid ((G3.out.below hb).below hbv)
  replace BG4 := Lib.hid ((BG4.out.keep (hb.block _ (by omega))).keep (hbv.block _ (by omega)))
  replace BR4 := Lib.hid ((BR4.out.keep (hb.block _ (by omega))).keep (hbv.block _ (by omega)))
  replace G4 := Lib.hid ((G4.out.below hb).below hbv)
  replace R4 := Lib.hid ((R4.out.below hb).below hbv)
  clear hz hr hb hbv x0 x1 x2 x3 xf d0 d1 d2 d3 d4 df o0 o1 o2 o3 o4 of g1 g2 g3
  have sv2 : w5.heap.size < U5.heap.size := by omega
  obtain ⟨x0, x1, x2, x3, xf⟩ := C5.out.bg
  obtain ⟨d0, d1, d2, d3, d4, df⟩ := C5.out.cf
  obtain ⟨o0, o1, o2, o3, o4, of⟩ := C5.out.op
  have g0 := C5.out.hl
  have g1 : w.heap.size < w5.heap.size := by omega
  have g2 : w.heap.size + 1 < w5.heap.size := by omega
  have g3 : w.heap.size + 1 + 1 < w5.heap.size := by omega
  go_wp2_with fail
  rw [← hV]
  clear hV x0 x1 x2 x3 xf d0 d1 d2 d3 d4 df o0 o1 o2 o3 o4 of g1 g2 g3 g0 C5 CV
  obtain ⟨x0, x1, x2, x3, xf⟩ := CX.out.bg
  obtain ⟨d0, d1, d2, d3, d4, df⟩ := CX.out.cf
  obtain ⟨o0, o1, o2, o3, o4, of⟩ := CX.out.op
  have g0 := CX.out.hl
  have g1 : w.heap.size < U5.heap.size := by omega
  have g2 : w.heap.size + 1 < U5.heap.size := by omega
  have g3 : w.heap.size + 1 + 1 < U5.heap.size := by omega
  obtain ⟨a0, a1, a2, a3, af⟩ := BG3.out
  obtain ⟨b0, b1, b2, b3, bf⟩ := BG4.out
  obtain ⟨k0, k1, k2, k3, kf⟩ := BG5.out
  obtain ⟨m0, m1, m2, m3, m4, mf⟩ := BR4.out
  obtain ⟨n0, n1, n2, n3, n4, nf⟩ := BR5.out
  have h3 : w3.heap.size < U5.heap.size := by omega
  have h4 : w4.heap.size < U5.heap.size := by omega
  have h4' : w4.heap.size + 1 < U5.heap.size := by omega
  have h5 : w5.heap.size < U5.heap.size := by omega
  have h5' : w5.heap.size + 1 < U5.heap.size := by omega
  refine wp_region_schedK (fun _ => True) [(0, true), (1, true), (2, false), (3, true), (4, true), (5, true), (6, false), (7, true), (8, true), (9, true), (10, true), (11, true), (13, true), (14, true), (15, true), (12, false), (16, false), (17, true), (18, true), (19, true), (20, true), (21, true), (22, false), (23, true), (24, true)] (by kernel_rfl) (by kernel_rfl) (fun hS => ?_)
  have HK := Lib.hid hS
  clear hS
  have KD := Lib.hid (Below.refl U5.heap.size U5).drew
  revert HK KD
  generalize U5.drew = Wd
  intro HK KD
  repeat (refine sched_take (v := ?_) (by simp only [List.getElem?_toArray, List.getElem?_cons_succ, List.getElem?_cons_zero]; rfl) (Or.inl ⟨by rfl, fun W hW => ?_⟩) HK.out ?_; rotate_left; (have hc := fun b o hb => hW.cell b o trivial hb; clear hW; go_simp; with_reducible rfl); simp only [Act.put, List.setIfInBounds_toArray, List.set_cons_zero, List.set_cons_succ])
  refine sched_step (by simp only [List.getElem?_toArray, List.getElem?_cons_succ, List.getElem?_cons_zero]; rfl) ?_
  go_wp2_with fail
  refine (refSameB_calls Wd (fun _ => True) z z _ _ _ _ (G4.out.below KD.out) (G5.out.below KD.out)).mono ?_
  rintro e w6 ⟨b, rfl, hb, hbel⟩
  obtain rfl : b = true := hb.2 (by trivial)
  clear hb
  have HK6 := Lib.hid (HK.out.below hbel)
  have KD6 := Lib.hid (KD.out.trans (hbel.mono KD.out.size))
  clear hbel
  go_wp2_with fail
  refine sched_on HK6.out ?_
  repeat (refine sched_take (v := ?_) (by simp only [List.getElem?_toArray, List.getElem?_cons_succ, List.getElem?_cons_zero]; rfl) (Or.inl ⟨by rfl, fun W hW => ?_⟩) HK6.out ?_; rotate_left; (have hc := fun b o hb => hW.cell b o trivial hb; clear hW; go_simp; with_reducible rfl); simp only [Act.put, List.setIfInBounds_toArray, List.set_cons_zero, List.set_cons_succ])
  refine sched_step (by simp only [List.getElem?_toArray, List.getElem?_cons_succ, List.getElem?_cons_zero]; rfl) ?_
  go_wp2_with fail
  refine (refSameR_calls w6 (fun _ => True) (fun _ => True) r r _ _ (R4.out.below KD6.out) (R5.out.below KD6.out)).mono ?_
  rintro e w7 ⟨b, rfl, hb, hbel⟩
  obtain rfl : b = true := hb.2 (by trivial)
  clear hb
  have HK7 := Lib.hid (HK6.out.below hbel)
  have KD7 := Lib.hid (KD6.out.trans (hbel.mono KD6.out.size))
  clear hbel
  go_wp2_with fail
  refine sched_on HK7.out ?_
  repeat (refine sched_take (v := ?_) (by simp only [List.getElem?_toArray, List.getElem?_cons_succ, List.getElem?_cons_zero]; rfl) (Or.inl ⟨by rfl, fun W hW => ?_⟩) HK7.out ?_; rotate_left; (have hc := fun b o hb => hW.cell b o trivial hb; clear hW; go_simp; with_reducible rfl); simp only [Act.put, List.setIfInBounds_toArray, List.set_cons_zero, List.set_cons_succ])
  refine sched_step (by simp only [List.getElem?_toArray, List.getElem?_cons_succ, List.getElem?_cons_zero]; rfl) ?_
  go_wp2_with fail
  refine (takes_calls w7 _ c g _ _ o (CX.out.hg.below KD7.out) HR.out).mono ?_
  rintro e w8 ⟨rfl, hbel⟩
  have HK8 := Lib.hid (HK7.out.below hbel)
  have KD8 := Lib.hid (KD7.out.trans (hbel.mono KD7.out.size))
  clear hbel
  go_wp2_with fail
  refine sched_on HK8.out ?_
  repeat (refine sched_take (v := ?_) (by simp only [List.getElem?_toArray, List.getElem?_cons_succ, List.getElem?_cons_zero]; rfl) (Or.inl ⟨by rfl, fun W hW => ?_⟩) HK8.out ?_; rotate_left; (have hc := fun b o hb => hW.cell b o trivial hb; clear hW; go_simp; with_reducible rfl); simp only [Act.put, List.setIfInBounds_toArray, List.set_cons_zero, List.set_cons_succ])
  refine sched_step (by simp only [List.getElem?_toArray, List.getElem?_cons_succ, List.getElem?_cons_zero]; rfl) ?_
  go_wp2_with fail
  refine (refTakes_calls w8 _ c g _ _ o (CX.out.hg.below KD8.out) HR.out).mono ?_
  rintro e w9 ⟨rfl, hbel⟩
  have HK9 := Lib.hid (HK8.out.below hbel)
  have KD9 := Lib.hid (KD8.out.trans (hbel.mono KD8.out.size))
  clear hbel
  go_wp2_with fail
  refine sched_on HK9.out ?_
  repeat (refine sched_take (v := ?_) (by simp only [List.getElem?_toArray, List.getElem?_cons_succ, List.getElem?_cons_zero]; rfl) (Or.inl ⟨by rfl, fun W hW => ?_⟩) HK9.out ?_; rotate_left; (have hc := fun b o hb => hW.cell b o trivial hb; clear hW; go_simp; with_reducible rfl); simp only [Act.put, List.setIfInBounds_toArray, List.set_cons_zero, List.set_cons_succ])
  refine sched_step (by simp only [List.getElem?_toArray, List.getElem?_cons_succ, List.getElem?_cons_zero]; rfl) ?_
  go_wp2_with fail
  refine (refSameB_calls w9 (fun _ => True) g g _ _ _ _ ((CX.out.hg.below KD9.out).mono fun _ _ _ => trivial) (G3.out.below KD9.out)).mono ?_
  rintro e w10 ⟨b, rfl, hb, hbel⟩
  obtain rfl : b = true := hb.2 (by trivial)
  clear hb
  have HK10 := Lib.hid (HK9.out.below hbel)
  have KD10 := Lib.hid (KD9.out.trans (hbel.mono KD9.out.size))
  clear hbel
  go_wp2_with fail
  refine sched_on HK10.out ?_
  repeat (refine sched_take (v := ?_) (by simp only [List.getElem?_toArray, List.getElem?_cons_succ, List.getElem?_cons_zero]; rfl) (Or.inl ⟨by rfl, fun W hW => ?_⟩) HK10.out ?_; rotate_left; (have hc := fun b o hb => hW.cell b o trivial hb; clear hW; go_simp; with_reducible rfl); simp only [Act.put, List.setIfInBounds_toArray, List.set_cons_zero, List.set_cons_succ])
  refine sched_done ?_
  have KE := Lib.hid (CX.out.K.trans (KD10.out.mono CX.out.K.size))
  clear HK HK6 HK7 HK8 HK9 HK10
  go_wp2
  go_ret
  exact ⟨rfl, KE.out⟩
end Go.Proofs.Ytpehmmdbjakkpaa
