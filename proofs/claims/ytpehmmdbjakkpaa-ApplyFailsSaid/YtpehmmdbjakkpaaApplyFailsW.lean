/- ApplyFails: an operation that fails leaves the graph as it was. -/
import Derived.Test.YtpehmmdbjakkpaaLiveA
import Derived.Test.YtpehmmdbjakkpaaSameB
import Derived.Test.YtpehmmdbjakkpaaPlainA
namespace Go.Proofs.Ytpehmmdbjakkpaa
open Go.RowKit Go.Shelf
set_option linter.unusedSimpArgs false
set_option linter.unusedVariables false
set_option maxRecDepth 100000 in
set_option maxHeartbeats 16000000 in
theorem applyFails_walk (w : World) (c : CfgD) (g : GraphD) (vn ve : Value) (hg : Gr w (fun _ => True) g vn ve) (o : OpD) : Calls Try.prog 15 #[c.val, .agg #[vn, ve, .int .i64 g.nn, .int .i64 g.ne], o.val] w fun e w' => e = .returned (.bool true) ∧ Below w.heap.size w w' := by
  obtain ⟨⟨A1, c1, rfl⟩, ⟨A2, c2, rfl⟩⟩ := hg.slices
  obtain ⟨W0, hW⟩ : ∃ W0, W0 = ((w.alloc (.cells #[.int .i64 c.nodes, .int .i64 c.edges, .int .i64 c.props, .int .i64 c.ids, .int .i64 c.eids] 23)).alloc (.cells #[.slice A1 g.nodes.length c1, .slice A2 g.edges.length c2, .int .i64 g.nn, .int .i64 g.ne] 27)).alloc (.cells #[.int .i64 o.k, .int .i64 o.a, .int .i64 o.b, .int .i64 o.p, .int .i64 o.v] 73) := ⟨_, rfl⟩
  obtain ⟨hc0, s0⟩ := cgo_made w _ c g _ _ o hg W0 hW
  have C0 := Lib.hid hc0
  clear hg hc0 s0
  unfold OpD.val CfgD.val
  go_enter Try.func15, Try.ntmps15
  go_wp2_with fail
  rw [← hW]
  clear hW
  refine (live11_calls W0).mono ?_
  rintro e w1 ⟨rfl, hb⟩
  have C1 := Lib.hid (C0.out.below hb)
  have s1 := C1.out.hl
  clear hb C0
  obtain ⟨x0, x1, x2, x3, xf⟩ := C1.out.bg
  obtain ⟨d0, d1, d2, d3, d4, df⟩ := C1.out.cf
  have g1 : w.heap.size < w1.heap.size := by omega
  have g2 : w.heap.size + 1 < w1.heap.size := by omega
  go_wp2_with fail
  refine (may11_calls w1 _ c g _ _ C1.out.hg).mono ?_
  rintro e w2 ⟨b, rfl, hmay, hb⟩
  have C2 := Lib.hid (C1.out.below hb)
  have s2 := C2.out.hl
  clear hb C1 x0 x1 x2 x3 xf d0 d1 d2 d3 d4 df g1 g2 s1
  cases b
  case false =>
    go_wp2
    go_ret
    exact ⟨rfl, C2.out.K⟩
  obtain ⟨hfew, hm⟩ := hmay rfl
  have HS := Lib.hid (hm.start hfew)
  have HR := Lib.hid (HS.out.rdy hm.head.cfg)
  clear hfew hm hmay
  have g1 : w.heap.size < w2.heap.size := by omega
  have g2 : w.heap.size + 1 < w2.heap.size := by omega
  have g3 : w.heap.size + 1 + 1 < w2.heap.size := by omega
  obtain ⟨x0, x1, x2, x3, xf⟩ := C2.out.bg
  obtain ⟨d0, d1, d2, d3, d4, df⟩ := C2.out.cf
  obtain ⟨o0, o1, o2, o3, o4, of⟩ := C2.out.op
  go_wp2_with fail
  refine (do_calls w2 _ c g _ _ o C2.out.hg HR.out).mono ?_
  rintro e w4 hp
  obtain ⟨A4, L4, c4, B4, M4, e4, p4, q4, r4, s4, t4, u4, rfl, hz, hr, hb⟩ := do_slices hp
  clear hp
  have HNO := Lib.hid (plain_no (c := c) (g := g) (o := o))
  have HDO := Lib.hid (plain_do (c := c) (g := g) (o := o))
  have HFA := Lib.hid (do_fails (c := c) (g := g) (o := o))
  obtain ⟨dd, hdd⟩ : ∃ d, d = doOf c g o := ⟨_, rfl⟩
  rw [← hdd] at hz hr HNO HDO HFA ⊢
  clear hdd
  obtain ⟨x, r⟩ := dd
  simp only at hz hr HNO HDO HFA ⊢
  have C4 := Lib.hid (C2.out.below hb)
  have ss4 := hb.size
  obtain ⟨x0, x1, x2, x3, xf⟩ := C4.out.bg
  obtain ⟨d0, d1, d2, d3, d4, df⟩ := C4.out.cf
  obtain ⟨o0, o1, o2, o3, o4, of⟩ := C4.out.op
  have g0 := C4.out.hl
  have g1 : w.heap.size < w4.heap.size := by omega
  have g2 : w.heap.size + 1 < w4.heap.size := by omega
  have g3 : w.heap.size + 1 + 1 < w4.heap.size := by omega
  obtain ⟨U4, hV⟩ : ∃ V, V = (w4.alloc (.cells #[.slice A4 L4 c4, .slice B4 M4 e4, .int .i64 x.nn, .int .i64 x.ne] 27)).alloc (.cells #[.int .i64 r.st, .int .i64 r.id, .slice p4 r.ps.length q4, .slice r4 r.os.length s4, .slice t4 r.is.length u4] 75) := ⟨_, rfl⟩
  have hbv : Below w4.heap.size w4 U4 := by rw [hV]; exact (by repeat (first | (with_reducible exact Below.refl _ _) | (with_reducible exact Below.refl _ _) | (with_reducible refine Below.drew ?_) | (with_reducible refine Below.alloc ?_ (by simp; try omega) _) | (with_reducible refine Below.setCell ?_ (by simp; try omega) _)))
  have sv : w4.heap.size + 1 < U4.heap.size := by rw [hV]; simp
  have BG4 := Lib.hid (show Box4 U4 w4.heap.size _ _ _ _ from by rw [hV]; exact (Box4.made w4 27 _ _ _ _).keep (Below.heap_alloc _ _ _ (by simp)))
  have BR4 := Lib.hid (show Box5 U4 (w4.heap.size + 1) _ _ _ _ _ from Box5.of (n := 75) (by
    rw [hV]
    have := heap_alloc_new (w4.alloc (.cells #[.slice A4 L4 c4, .slice B4 M4 e4, .int .i64 x.nn, .int .i64 x.ne] 27)) (.cells #[.int .i64 r.st, .int .i64 r.id, .slice p4 r.ps.length q4, .slice r4 r.os.length s4, .slice t4 r.is.length u4] 75)
    rw [World.size_alloc] at this
    exact this))
  have CX := Lib.hid ((C2.out.below hb).below hbv)
  have G4 := Lib.hid ((hz.below hbv).mono (S' := fun _ => True) fun _ _ _ => trivial)
  have R4 := Lib.hid ((hr.below hbv).mono (S' := fun _ => True) fun _ _ _ => trivial)
  have sw := hb.size
  clear hz hr hb hbv x0 x1 x2 x3 xf d0 d1 d2 d3 d4 df o0 o1 o2 o3 o4 of g1 g2 g3
  have sv2 : w4.heap.size < U4.heap.size := by omega
  obtain ⟨x0, x1, x2, x3, xf⟩ := C4.out.bg
  obtain ⟨d0, d1, d2, d3, d4, df⟩ := C4.out.cf
  obtain ⟨o0, o1, o2, o3, o4, of⟩ := C4.out.op
  have g0 := C4.out.hl
  have g1 : w.heap.size < w4.heap.size := by omega
  have g2 : w.heap.size + 1 < w4.heap.size := by omega
  have g3 : w.heap.size + 1 + 1 < w4.heap.size := by omega
  go_wp2_with fail
  rw [← hV]
  clear hV x0 x1 x2 x3 xf d0 d1 d2 d3 d4 df o0 o1 o2 o3 o4 of g1 g2 g3 g0 C4 C2
  refine (linePlain_calls o U4).mono ?_
  unfold plainV
  generalize hpl : plainOf o = pl at *
  obtain ⟨q, is⟩ := pl
  simp only at HNO HDO ⊢
  rintro e w5 ⟨rfl, hb⟩
  have C5 := Lib.hid (CX.out.below hb)
  have ss5 := hb.size
  have B5 := Lib.hid (BG4.out.keep (hb.block _ (by omega)))
  have D5 := Lib.hid (BR4.out.keep (hb.block _ (by omega)))
  have G5 := Lib.hid (G4.out.below hb)
  have R5 := Lib.hid (R4.out.below hb)
  have h4 : w4.heap.size + 1 < w5.heap.size := by omega
  have h4' : w4.heap.size < w5.heap.size := by omega
  clear hb CX BG4 BR4 G4 R4 hpl
  unfold OpD.val
  obtain ⟨U5, hV⟩ : ∃ V, V = w5.alloc (.cells #[.int .i64 q.k, .int .i64 q.a, .int .i64 q.b, .int .i64 q.p, .int .i64 q.v] 73) := ⟨_, rfl⟩
  have hbv : Below w5.heap.size w5 U5 := by rw [hV]; exact (Below.refl _ _).alloc (Nat.le_refl _) _
  have sv5 : w5.heap.size < U5.heap.size := by rw [hV]; simp
  have Q5 := Lib.hid (show Box5 U5 w5.heap.size _ _ _ _ _ from Box5.of (n := 73) (by rw [hV]; exact heap_alloc_new w5 _))
  have CU := Lib.hid (C5.out.below hbv)
  have BU := Lib.hid (B5.out.keep (hbv.block _ h4'))
  have DU := Lib.hid (D5.out.keep (hbv.block _ h4))
  have GU := Lib.hid (G5.out.below hbv)
  have RU := Lib.hid (R5.out.below hbv)
  have C5c := Lib.hid C5.out
  cases is
  case false =>
    obtain ⟨hrr, htk⟩ := HNO.out rfl
    injection hrr with hx1 hr1
    subst hx1 hr1
    have HTK := Lib.hid htk
    clear hbv G5 R5 HNO HDO HFA htk C5
    obtain ⟨a0, a1, a2, a3, af⟩ := B5.out
    obtain ⟨m0, m1, m2, m3, m4, mf⟩ := D5.out
    simp only at m0 m1 m2 m3 m4
    obtain ⟨y0, y1, y2, y3, yf⟩ := CU.out.bg
    obtain ⟨b0, b1, b2, b3, bf⟩ := BU.out
    have g0 := CU.out.hl
    have k4 : w4.heap.size < U5.heap.size := by omega
    have hh := h4
    obtain ⟨z0, z1, z2, z3, zf⟩ := (show Box4 w5 (w.heap.size + 1) _ _ _ _ from C5c.out.bg)
    have g1 : w.heap.size + 1 < w5.heap.size := by omega
    go_wp2_with fail
    rw [← hV]
    clear hV z0 z1 z2 z3 zf a0 a1 a2 a3 af m0 m1 m2 m3 m4 mf y0 y1 y2 y3 yf b0 b1 b2 b3 bf g0 g1
    have KD5 := Lib.hid (Below.refl U5.heap.size U5)
    refine (same_calls U5 (fun _ => True) x x _ _ _ _ GU.out (CU.out.hg.mono fun _ _ _ => trivial)).mono ?_
    rintro e w6 ⟨b, rfl, hb, hbel⟩
    obtain rfl : b = true := hb.2 (by trivial)
    clear hb
    have KD6 := Lib.hid (KD5.out.trans (hbel.mono KD5.out.size))
    have C6 := Lib.hid (CU.out.below hbel)
    clear hbel
    obtain ⟨x0, x1, x2, x3, xf⟩ := C6.out.bg
    obtain ⟨d0, d1, d2, d3, d4, df⟩ := C6.out.cf
    obtain ⟨o0, o1, o2, o3, o4, of⟩ := C6.out.op
    have g0 := C6.out.hl
    have g1 : w.heap.size < w6.heap.size := by omega
    have g2 : w.heap.size + 1 < w6.heap.size := by omega
    have g3 : w.heap.size + 1 + 1 < w6.heap.size := by omega
    go_wp2_with fail
    refine (takes_calls w6 _ c x _ _ o C6.out.hg HR.out).mono ?_
    rw [HTK.out]
    rintro e w7 ⟨rfl, hbel⟩
    have KE := Lib.hid (C6.out.K.trans (hbel.mono C6.out.K.size))
    clear hbel C6 CU g0 x0 x1 x2 x3 xf d0 d1 d2 d3 d4 df o0 o1 o2 o3 o4 of g1 g2 g3
    go_wp2
    go_ret
    exact ⟨rfl, KE.out⟩
  obtain ⟨hdo, htk⟩ := HDO.out rfl
  have HTK := Lib.hid htk
  have HDQ := Lib.hid hdo
  clear hdo htk HNO HDO hbv
  obtain ⟨z0, z1, z2, z3, zf⟩ := C5c.out.bg
  obtain ⟨d0, d1, d2, d3, d4, df⟩ := C5c.out.cf
  have g0 := CU.out.hl
  have g1 : w.heap.size < w5.heap.size := by omega
  have g2 : w.heap.size + 1 < w5.heap.size := by omega
  go_wp2_with fail
  rw [← hV]
  clear hV z0 z1 z2 z3 zf d0 d1 d2 d3 d4 df g0 g1 g2 B5 D5 G5 R5 C5 C5c
  refine (do_calls U5 _ c g _ _ q CU.out.hg HR.out).mono ?_
  rintro e w6 hp
  obtain ⟨A6, L6, c6, B6, M6, e6, p6, q6, r6, s6, t6, u6, rfl, hz, hr, hb⟩ := do_slices hp
  clear hp
  rw [HDQ.out] at hz hr ⊢
  simp only at hz hr ⊢
  have C6 := Lib.hid (CU.out.below hb)
  have ss6 := hb.size
  obtain ⟨V6, hV⟩ : ∃ V, V = (w6.alloc (.cells #[.slice A6 L6 c6, .slice B6 M6 e6, .int .i64 x.nn, .int .i64 x.ne] 27)).alloc (.cells #[.int .i64 r.st, .int .i64 r.id, .slice p6 r.ps.length q6, .slice r6 r.os.length s6, .slice t6 r.is.length u6] 75) := ⟨_, rfl⟩
  have hbv : Below w6.heap.size w6 V6 := by rw [hV]; exact (by repeat (first | (with_reducible exact Below.refl _ _) | (with_reducible exact Below.refl _ _) | (with_reducible refine Below.drew ?_) | (with_reducible refine Below.alloc ?_ (by simp; try omega) _) | (with_reducible refine Below.setCell ?_ (by simp; try omega) _)))
  have sv6 : w6.heap.size + 1 < V6.heap.size := by rw [hV]; simp
  have BG6 := Lib.hid (show Box4 V6 w6.heap.size _ _ _ _ from by rw [hV]; exact (Box4.made w6 27 _ _ _ _).keep (Below.heap_alloc _ _ _ (by simp)))
  have BR6 := Lib.hid (show Box5 V6 (w6.heap.size + 1) _ _ _ _ _ from Box5.of (n := 75) (by
    rw [hV]
    have := heap_alloc_new (w6.alloc (.cells #[.slice A6 L6 c6, .slice B6 M6 e6, .int .i64 x.nn, .int .i64 x.ne] 27)) (.cells #[.int .i64 r.st, .int .i64 r.id, .slice p6 r.ps.length q6, .slice r6 r.os.length s6, .slice t6 r.is.length u6] 75)
    rw [World.size_alloc] at this
    exact this))
  have C7 := Lib.hid (C6.out.below hbv)
  have G6 := Lib.hid ((hz.below hbv).mono (S' := fun _ => True) fun _ _ _ => trivial)
  have R6 := Lib.hid ((hr.below hbv).mono (S' := fun _ => True) fun _ _ _ => trivial)
  have BH := Lib.hid ((BU.out.keep (hb.block _ (by omega))).keep (hbv.block _ (by omega)))
  have DH := Lib.hid ((DU.out.keep (hb.block _ (by omega))).keep (hbv.block _ (by omega)))
  have QH := Lib.hid ((Q5.out.keep (hb.block _ (by omega))).keep (hbv.block _ (by omega)))
  have GH := Lib.hid ((GU.out.below hb).below hbv)
  have RH := Lib.hid ((RU.out.below hb).below hbv)
  have i1 : w4.heap.size < w6.heap.size := by omega
  have i2 : w4.heap.size + 1 < w6.heap.size := by omega
  have i3 : w5.heap.size < w6.heap.size := by omega
  clear hz hr hb BU DU Q5 GU RU CU
  obtain ⟨x0, x1, x2, x3, xf⟩ := C6.out.bg
  obtain ⟨d0, d1, d2, d3, d4, df⟩ := C6.out.cf
  obtain ⟨o0, o1, o2, o3, o4, of⟩ := C6.out.op
  have g0 := C6.out.hl
  have g1 : w.heap.size < w6.heap.size := by omega
  have g2 : w.heap.size + 1 < w6.heap.size := by omega
  have g3 : w.heap.size + 1 + 1 < w6.heap.size := by omega
  go_wp2_with fail
  rw [← hV]
  clear hV hbv g0 C6 x0 x1 x2 x3 xf d0 d1 d2 d3 d4 df o0 o1 o2 o3 o4 of g1 g2 g3
  obtain ⟨x0, x1, x2, x3, xf⟩ := C7.out.bg
  obtain ⟨d0, d1, d2, d3, d4, df⟩ := C7.out.cf
  obtain ⟨o0, o1, o2, o3, o4, of⟩ := C7.out.op
  have g0 := C7.out.hl
  have g1 : w.heap.size < V6.heap.size := by omega
  have g2 : w.heap.size + 1 < V6.heap.size := by omega
  have g3 : w.heap.size + 1 + 1 < V6.heap.size := by omega
  obtain ⟨a0, a1, a2, a3, af⟩ := BH.out
  obtain ⟨m0, m1, m2, m3, m4, mf⟩ := DH.out
  obtain ⟨b0, b1, b2, b3, bf⟩ := BG6.out
  obtain ⟨n0, n1, n2, n3, n4, nf⟩ := BR6.out
  obtain ⟨k0, k1, k2, k3, k4, kf⟩ := QH.out
  have j1 : w4.heap.size < V6.heap.size := by omega
  have j2 : w4.heap.size + 1 < V6.heap.size := by omega
  have j3 : w5.heap.size < V6.heap.size := by omega
  have j4 : w6.heap.size < V6.heap.size := by omega
  refine wp_region_schedK (fun _ => True) [(0, true), (1, true), (2, false), (3, true), (4, true), (5, true), (6, true), (7, false), (8, true), (9, true), (10, true), (11, true), (12, true), (13, true), (15, true), (16, true), (17, true), (14, false), (18, false), (19, true), (20, true)] (by kernel_rfl) (by kernel_rfl) (fun hS => ?_)
  have HK := Lib.hid hS
  clear hS
  have KD := Lib.hid (Below.refl V6.heap.size V6).drew
  revert HK KD
  generalize V6.drew = Wd
  intro HK KD
  repeat (refine sched_take (v := ?_) (by simp only [List.getElem?_toArray, List.getElem?_cons_succ, List.getElem?_cons_zero]; rfl) (Or.inl ⟨by rfl, fun W hW => ?_⟩) HK.out ?_; rotate_left; (have hc := fun b o hb => hW.cell b o trivial hb; clear hW; go_simp; with_reducible rfl); simp only [Act.put, List.setIfInBounds_toArray, List.set_cons_zero, List.set_cons_succ])
  refine sched_step (by simp only [List.getElem?_toArray, List.getElem?_cons_succ, List.getElem?_cons_zero]; rfl) ?_
  go_wp2_with fail
  refine (same_calls Wd (fun _ => True) x x _ _ _ _ (GH.out.below KD.out) (G6.out.below KD.out)).mono ?_
  rintro e w7 ⟨b, rfl, hb, hbel⟩
  obtain rfl : b = true := hb.2 (by trivial)
  clear hb
  have HK7 := Lib.hid (HK.out.below hbel)
  have KD7 := Lib.hid (KD.out.trans (hbel.mono KD.out.size))
  clear hbel
  go_wp2_with fail
  refine sched_on HK7.out ?_
  repeat (refine sched_take (v := ?_) (by simp only [List.getElem?_toArray, List.getElem?_cons_succ, List.getElem?_cons_zero]; rfl) (Or.inl ⟨by rfl, fun W hW => ?_⟩) HK7.out ?_; rotate_left; (have hc := fun b o hb => hW.cell b o trivial hb; clear hW; go_simp; with_reducible rfl); simp only [Act.put, List.setIfInBounds_toArray, List.set_cons_zero, List.set_cons_succ])
  refine sched_step (by simp only [List.getElem?_toArray, List.getElem?_cons_succ, List.getElem?_cons_zero]; rfl) ?_
  go_wp2_with fail
  refine (appSame_calls w7 (fun _ => True) (fun _ => True) r r _ _ (RH.out.below KD7.out) (R6.out.below KD7.out)).mono ?_
  rintro e w8 ⟨b, rfl, hb, hbel⟩
  obtain rfl : b = true := hb.2 (by trivial)
  clear hb
  have HK8 := Lib.hid (HK7.out.below hbel)
  have KD8 := Lib.hid (KD7.out.trans (hbel.mono KD7.out.size))
  clear hbel
  go_wp2_with fail
  refine sched_on HK8.out ?_
  repeat (refine sched_take (v := ?_) (by simp only [List.getElem?_toArray, List.getElem?_cons_succ, List.getElem?_cons_zero]; rfl) (Or.inl ⟨by rfl, fun W hW => ?_⟩) HK8.out ?_; rotate_left; (have hc := fun b o hb => hW.cell b o trivial hb; clear hW; go_simp; with_reducible rfl); simp only [Act.put, List.setIfInBounds_toArray, List.set_cons_zero, List.set_cons_succ])
  refine sched_step (by simp only [List.getElem?_toArray, List.getElem?_cons_succ, List.getElem?_cons_zero]; rfl) ?_
  go_wp2_with fail
  refine (takes_calls w8 _ c g _ _ o (C7.out.hg.below KD8.out) HR.out).mono ?_
  rintro e w9 ⟨rfl, hbel⟩
  have HK9 := Lib.hid (HK8.out.below hbel)
  have KD9 := Lib.hid (KD8.out.trans (hbel.mono KD8.out.size))
  clear hbel
  go_wp2_with fail
  refine sched_on HK9.out ?_
  repeat (refine sched_take (v := ?_) (by simp only [List.getElem?_toArray, List.getElem?_cons_succ, List.getElem?_cons_zero]; rfl) (Or.inl ⟨by rfl, fun W hW => ?_⟩) HK9.out ?_; rotate_left; (have hc := fun b o hb => hW.cell b o trivial hb; clear hW; go_simp; with_reducible rfl); simp only [Act.put, List.setIfInBounds_toArray, List.set_cons_zero, List.set_cons_succ])
  refine sched_step (by simp only [List.getElem?_toArray, List.getElem?_cons_succ, List.getElem?_cons_zero]; rfl) ?_
  go_wp2_with fail
  refine (takes_calls w9 _ c g _ _ q (C7.out.hg.below KD9.out) HR.out).mono ?_
  rw [HTK.out]
  rintro e w10 ⟨rfl, hbel⟩
  have HK10 := Lib.hid (HK9.out.below hbel)
  have KD10 := Lib.hid (KD9.out.trans (hbel.mono KD9.out.size))
  clear hbel
  go_wp2_with fail
  refine sched_on HK10.out ?_
  repeat (refine sched_take (v := ?_) (by simp only [List.getElem?_toArray, List.getElem?_cons_succ, List.getElem?_cons_zero]; rfl) (Or.inl ⟨by rfl, fun W hW => ?_⟩) HK10.out ?_; rotate_left; (have hc := fun b o hb => hW.cell b o trivial hb; clear hW; go_simp; with_reducible rfl); simp only [Act.put, List.setIfInBounds_toArray, List.set_cons_zero, List.set_cons_succ])
  refine sched_done ?_
  have C10 := Lib.hid (C7.out.below KD10.out)
  have DT := DH.out.keep (KD10.out.block _ j2)
  have BT := BH.out.keep (KD10.out.block _ j1)
  have G10 := Lib.hid (GH.out.below KD10.out)
  have l10 := KD10.out.size
  clear HK HK7 HK8 HK9 HK10 x0 x1 x2 x3 xf d0 d1 d2 d3 d4 df o0 o1 o2 o3 o4 of g1 g2 g3 g0 a0 a1 a2 a3 af m0 m1 m2 m3 m4 mf b0 b1 b2 b3 bf n0 n1 n2 n3 n4 nf k0 k1 k2 k3 k4 kf C7 BH DH QH BG6 BR6
  obtain ⟨x0, x1, x2, x3, xf⟩ := C10.out.bg
  obtain ⟨d0, d1, d2, d3, d4, df⟩ := C10.out.cf
  obtain ⟨o0, o1, o2, o3, o4, of⟩ := C10.out.op
  have g0 := C10.out.hl
  have g1 : w.heap.size < w10.heap.size := by omega
  have g2 : w.heap.size + 1 < w10.heap.size := by omega
  have g3 : w.heap.size + 1 + 1 < w10.heap.size := by omega
  obtain ⟨m0, m1, m2, m3, m4, mf⟩ := DT
  obtain ⟨a0, a1, a2, a3, af⟩ := BT
  have j5 : w4.heap.size < w10.heap.size := by omega
  have j6 : w4.heap.size + 1 < w10.heap.size := by omega
  have KE := Lib.hid C10.out.K
  by_cases hs0 : r.st = 0 ∧ ¬ o.k = 6 ∧ ¬ o.k = 7
  case pos =>
    obtain ⟨h1, h2, h3⟩ := hs0
    rw [h1] at m0
    have e2 : (o.k == 6) = false := by simpa using h2
    have e3 : (o.k == 7) = false := by simpa using h3
    clear h1 h2 h3
    go_wp2
    go_ret
    exact ⟨rfl, KE.out⟩
  have hxg : x = g := HFA.out (by
    by_cases h1 : r.st = 0
    · by_cases h2 : o.k = 6
      · exact .inr (.inl h2)
      · by_cases h3 : o.k = 7
        · exact .inr (.inr h3)
        · exact absurd ⟨h1, h2, h3⟩ hs0
    · exact .inl h1)
  subst hxg
  have HFI := Lib.hid (show (r.st == 0 && !(o.k == 6 || o.k == 7)) = false from by
    rw [Bool.eq_false_iff]
    intro h
    simp at h
    exact hs0 ⟨h.1, h.2.1, h.2.2⟩)
  clear hs0
  by_cases h1 : r.st = 0
  case neg =>
    have e1 : (r.st == 0) = false := by simpa using h1
    clear h1
    by_cases h6 : o.k = 6
    case pos =>
      have e2 : (o.k == 6) = true := by simpa using h6
      clear h6
      go_wp2_with fail
      refine (same_calls w10 (fun _ => True) x x _ _ _ _ G10.out (C10.out.hg.mono fun _ _ _ => trivial)).mono ?_
      rintro e w11 ⟨b, rfl, hb, hbel⟩
      obtain rfl : b = true := hb.2 (by trivial)
      have KF := Lib.hid (KE.out.trans (hbel.mono KE.out.size))
      clear hb hbel
      go_wp2
      go_ret
      exact ⟨rfl, KF.out⟩
    have e2 : (o.k == 6) = false := by simpa using h6
    clear h6
    generalize hk7 : (o.k == 7) = b7
    go_wp2_with fail
    refine (same_calls w10 (fun _ => True) x x _ _ _ _ G10.out (C10.out.hg.mono fun _ _ _ => trivial)).mono ?_
    rintro e w11 ⟨b, rfl, hb, hbel⟩
    obtain rfl : b = true := hb.2 (by trivial)
    have KF := Lib.hid (KE.out.trans (hbel.mono KE.out.size))
    clear hb hbel
    go_wp2
    go_ret
    exact ⟨rfl, KF.out⟩
  rw [h1] at m0
  have HR6 : o.k = 6 ∨ o.k = 7 := by
    by_cases h6 : o.k = 6
    · exact .inl h6
    · by_cases h7 : o.k = 7
      · exact .inr h7
      · have := HFI.out
        simp [h1, h6, h7] at this
  clear h1 HFI
  by_cases h6 : o.k = 6
  case pos =>
    have e2 : (o.k == 6) = true := by simpa using h6
    clear h6 HR6
    go_wp2_with fail
    refine (same_calls w10 (fun _ => True) x x _ _ _ _ G10.out (C10.out.hg.mono fun _ _ _ => trivial)).mono ?_
    rintro e w11 ⟨b, rfl, hb, hbel⟩
    obtain rfl : b = true := hb.2 (by trivial)
    have KF := Lib.hid (KE.out.trans (hbel.mono KE.out.size))
    clear hb hbel
    go_wp2
    go_ret
    exact ⟨rfl, KF.out⟩
  have e2 : (o.k == 6) = false := by simpa using h6
  have e3 : (o.k == 7) = true := by
    rcases HR6 with h | h
    · exact absurd h h6
    · simpa using h
  clear h6 HR6
  go_wp2_with fail
  refine (same_calls w10 (fun _ => True) x x _ _ _ _ G10.out (C10.out.hg.mono fun _ _ _ => trivial)).mono ?_
  rintro e w11 ⟨b, rfl, hb, hbel⟩
  obtain rfl : b = true := hb.2 (by trivial)
  have KF := Lib.hid (KE.out.trans (hbel.mono KE.out.size))
  clear hb hbel
  go_wp2
  go_ret
  exact ⟨rfl, KF.out⟩
end Go.Proofs.Ytpehmmdbjakkpaa
