/- ApplyFull: that it is full can be told of an operation just if it takes a record, and then nothing is changed. -/
import Derived.Test.YtpehmmdbjakkpaaLiveA
import Derived.Test.YtpehmmdbjakkpaaFitsA
import Derived.Test.YtpehmmdbjakkpaaSameB
import Derived.Test.YtpehmmdbjakkpaaPlainA
namespace Go.Proofs.Ytpehmmdbjakkpaa
open Go.RowKit Go.Shelf
set_option linter.unusedSimpArgs false
set_option linter.unusedVariables false
set_option maxRecDepth 100000 in
set_option maxHeartbeats 16000000 in
theorem applyFull_walk (w : World) (c : CfgD) (g : GraphD) (vn ve : Value) (hg : Gr w (fun _ => True) g vn ve) (o : OpD) : Calls Try.prog 14 #[c.val, .agg #[vn, ve, .int .i64 g.nn, .int .i64 g.ne], o.val] w fun e w' => e = .returned (.bool true) ∧ Below w.heap.size w w' := by
  obtain ⟨⟨A1, c1, rfl⟩, ⟨A2, c2, rfl⟩⟩ := hg.slices
  obtain ⟨W0, hW⟩ : ∃ W0, W0 = ((w.alloc (.cells #[.int .i64 c.nodes, .int .i64 c.edges, .int .i64 c.props, .int .i64 c.ids, .int .i64 c.eids] 23)).alloc (.cells #[.slice A1 g.nodes.length c1, .slice A2 g.edges.length c2, .int .i64 g.nn, .int .i64 g.ne] 27)).alloc (.cells #[.int .i64 o.k, .int .i64 o.a, .int .i64 o.b, .int .i64 o.p, .int .i64 o.v] 73) := ⟨_, rfl⟩
  obtain ⟨hc0, s0⟩ := cgo_made w _ c g _ _ o hg W0 hW
  have C0 := Lib.hid hc0
  clear hg hc0 s0
  unfold OpD.val CfgD.val
  go_enter Try.func14, Try.ntmps14
  go_wp2_with fail
  rw [← hW]
  clear hW
  refine (live11_calls W0).mono ?_
  rintro e w1 ⟨rfl, hb⟩
  have C1 := Lib.hid (C0.out.below hb)
  have s1 := C1.out.hl
  clear hb C0
  obtain ⟨x0, x1, x2, x3, xf⟩ := C1.out.bg
  obtain ⟨d0, d1, d2, d3, d4, df⟩ := C1.out.cf
  have g1 : w.heap.size < w1.heap.size := by omega
  have g2 : w.heap.size + 1 < w1.heap.size := by omega
  go_wp2_with fail
  refine (may11_calls w1 _ c g _ _ C1.out.hg).mono ?_
  rintro e w2 ⟨b, rfl, hmay, hb⟩
  have C2 := Lib.hid (C1.out.below hb)
  have s2 := C2.out.hl
  clear hb C1 x0 x1 x2 x3 xf d0 d1 d2 d3 d4 df g1 g2 s1
  cases b
  case false =>
    go_wp2
    go_ret
    exact ⟨rfl, C2.out.K⟩
  obtain ⟨hfew, hm⟩ := hmay rfl
  have HS := Lib.hid (hm.start hfew)
  have HR := Lib.hid (HS.out.rdy hm.head.cfg)
  clear hfew hm hmay
  have g1 : w.heap.size < w2.heap.size := by omega
  have g2 : w.heap.size + 1 < w2.heap.size := by omega
  have g3 : w.heap.size + 1 + 1 < w2.heap.size := by omega
  obtain ⟨x0, x1, x2, x3, xf⟩ := C2.out.bg
  obtain ⟨d0, d1, d2, d3, d4, df⟩ := C2.out.cf
  obtain ⟨o0, o1, o2, o3, o4, of⟩ := C2.out.op
  go_wp2_with fail
  refine (do_calls w2 _ c g _ _ o C2.out.hg HR.out).mono ?_
  rintro e w4 hp
  obtain ⟨A4, L4, c4, B4, M4, e4, p4, q4, r4, s4, t4, u4, rfl, hz, hr, hb⟩ := do_slices hp
  clear hp
  have HFT := Lib.hid (show ∀ y b, FitsD c g o (doOf c g o).2 y b → y = (doOf c g o).1 ∧ b = true from fun y b h => by
    rcases h with ⟨_, h2, h3⟩ | ⟨h1, _⟩
    · exact ⟨h2, h3⟩
    · exact absurd rfl h1)
  have HFF := Lib.hid (show ∀ y b, FitsD c g o ResD.full y b → y = g ∧ (b = true ↔ ¬ takesOf c g o = 0) from fun y b h => by
    rcases h with ⟨h1, _⟩ | ⟨_, h2, h3⟩
    · exact absurd (by rw [h1]; rfl) (do_notfull c g o)
    · exact ⟨h2, h3.trans ⟨fun e => e.2, fun e => ⟨rfl, e⟩⟩⟩)
  obtain ⟨dd, hdd⟩ : ∃ d, d = doOf c g o := ⟨_, rfl⟩
  rw [← hdd] at hz hr HFT ⊢
  clear hdd
  obtain ⟨z, r⟩ := dd
  simp only at hz hr HFT ⊢
  have C4 := Lib.hid (C2.out.below hb)
  have ss4 := hb.size
  obtain ⟨x0, x1, x2, x3, xf⟩ := C4.out.bg
  obtain ⟨d0, d1, d2, d3, d4, df⟩ := C4.out.cf
  obtain ⟨o0, o1, o2, o3, o4, of⟩ := C4.out.op
  have g0 := C4.out.hl
  have g1 : w.heap.size < w4.heap.size := by omega
  have g2 : w.heap.size + 1 < w4.heap.size := by omega
  have g3 : w.heap.size + 1 + 1 < w4.heap.size := by omega
  obtain ⟨U4, hV⟩ : ∃ V, V = (w4.alloc (.cells #[.slice A4 L4 c4, .slice B4 M4 e4, .int .i64 z.nn, .int .i64 z.ne] 27)).alloc (.cells #[.int .i64 r.st, .int .i64 r.id, .slice p4 r.ps.length q4, .slice r4 r.os.length s4, .slice t4 r.is.length u4] 75) := ⟨_, rfl⟩
  have hbv : Below w4.heap.size w4 U4 := by rw [hV]; exact (by repeat (first | (with_reducible exact Below.refl _ _) | (with_reducible exact Below.refl _ _) | (with_reducible refine Below.drew ?_) | (with_reducible refine Below.alloc ?_ (by simp; try omega) _) | (with_reducible refine Below.setCell ?_ (by simp; try omega) _)))
  have sv : w4.heap.size + 1 < U4.heap.size := by rw [hV]; simp
  have BG4 := Lib.hid (show Box4 U4 w4.heap.size _ _ _ _ from by rw [hV]; exact (Box4.made w4 27 _ _ _ _).keep (Below.heap_alloc _ _ _ (by simp)))
  have BR4 := Lib.hid (show Box5 U4 (w4.heap.size + 1) _ _ _ _ _ from Box5.of (n := 75) (by
    rw [hV]
    have := heap_alloc_new (w4.alloc (.cells #[.slice A4 L4 c4, .slice B4 M4 e4, .int .i64 z.nn, .int .i64 z.ne] 27)) (.cells #[.int .i64 r.st, .int .i64 r.id, .slice p4 r.ps.length q4, .slice r4 r.os.length s4, .slice t4 r.is.length u4] 75)
    rw [World.size_alloc] at this
    exact this))
  have CX := Lib.hid ((C2.out.below hb).below hbv)
  have G4 := Lib.hid ((hz.below hbv).mono (S' := fun _ => True) fun _ _ _ => trivial)
  have R4 := Lib.hid ((hr.below hbv).mono (S' := fun _ => True) fun _ _ _ => trivial)
  have sw := hb.size
  clear hz hr hb hbv x0 x1 x2 x3 xf d0 d1 d2 d3 d4 df o0 o1 o2 o3 o4 of g1 g2 g3
  have sv2 : w4.heap.size < U4.heap.size := by omega
  obtain ⟨x0, x1, x2, x3, xf⟩ := C4.out.bg
  obtain ⟨d0, d1, d2, d3, d4, df⟩ := C4.out.cf
  obtain ⟨o0, o1, o2, o3, o4, of⟩ := C4.out.op
  have g0 := C4.out.hl
  have g1 : w.heap.size < w4.heap.size := by omega
  have g2 : w.heap.size + 1 < w4.heap.size := by omega
  have g3 : w.heap.size + 1 + 1 < w4.heap.size := by omega
  go_wp2_with fail
  rw [← hV]
  clear hV x0 x1 x2 x3 xf d0 d1 d2 d3 d4 df o0 o1 o2 o3 o4 of g1 g2 g3 g0 C4 C2
  refine (fits_calls U4 _ (fun _ => True) c g _ _ o r _ CX.out.hg HR.out R4.out).mono ?_
  rintro e w5 ⟨yn, ye, y, b, rfl, hz, hfd, hb⟩
  obtain ⟨rfl, rfl⟩ := HFT.out y b hfd
  obtain ⟨⟨A5, L5, c5, rfl⟩, B5, M5, e5, rfl⟩ := hz.sl3
  have C5 := Lib.hid (CX.out.below hb)
  have ss5 := hb.size
  clear hfd R4 BR4
  obtain ⟨x0, x1, x2, x3, xf⟩ := C5.out.bg
  obtain ⟨d0, d1, d2, d3, d4, df⟩ := C5.out.cf
  obtain ⟨o0, o1, o2, o3, o4, of⟩ := C5.out.op
  have g0 := C5.out.hl
  have g1 : w.heap.size < w5.heap.size := by omega
  have g2 : w.heap.size + 1 < w5.heap.size := by omega
  have g3 : w.heap.size + 1 + 1 < w5.heap.size := by omega
  obtain ⟨U5, hV⟩ : ∃ V, V = w5.alloc (.cells #[.slice A5 L5 c5, .slice B5 M5 e5, .int .i64 y.nn, .int .i64 y.ne] 27) := ⟨_, rfl⟩
  have hbv : Below w5.heap.size w5 U5 := by rw [hV]; exact (Below.refl _ _).alloc (Nat.le_refl _) _
  have sv : w5.heap.size < U5.heap.size := by rw [hV]; simp
  have BG5 := Lib.hid (show Box4 U5 w5.heap.size _ _ _ _ from by rw [hV]; exact Box4.made w5 27 _ _ _ _)
  have CY := Lib.hid ((CX.out.below hb).below hbv)
  have G5 := Lib.hid ((hz.below hbv).mono (S' := fun _ => True) fun _ _ _ => trivial)
  have sw := hb.size
  replace BG4 := Lib.hid ((BG4.out.keep (hb.block _ (by omega))).keep (hbv.block _ (by omega)))
  replace G4 := Lib.hid ((G4.out.below hb).below hbv)
  clear hz hb hbv x0 x1 x2 x3 xf d0 d1 d2 d3 d4 df o0 o1 o2 o3 o4 of g1 g2 g3
  have sv2 : w5.heap.size < U5.heap.size := by omega
  obtain ⟨x0, x1, x2, x3, xf⟩ := C5.out.bg
  obtain ⟨d0, d1, d2, d3, d4, df⟩ := C5.out.cf
  obtain ⟨o0, o1, o2, o3, o4, of⟩ := C5.out.op
  have g0 := C5.out.hl
  have g1 : w.heap.size < w5.heap.size := by omega
  have g2 : w.heap.size + 1 < w5.heap.size := by omega
  have g3 : w.heap.size + 1 + 1 < w5.heap.size := by omega
  go_wp2_with fail
  rw [← hV]
  clear hV x0 x1 x2 x3 xf d0 d1 d2 d3 d4 df o0 o1 o2 o3 o4 of g1 g2 g3 g0 C5 CX
  refine (fits_calls U5 _ (fun _ => True) c g _ _ o ResD.full _ CY.out.hg HR.out ⟨_, _, _, rfl, Row.nil _ _ _, Row.nil _ _ _, Row.nil _ _ _⟩).mono ?_
  rintro e w6 ⟨zn, ze, z, b, rfl, hz, hfd, hb⟩
  obtain ⟨hzg, hbt⟩ := HFF.out z b hfd
  subst hzg
  have HBT := Lib.hid hbt
  obtain ⟨⟨A6, L6, c6, rfl⟩, B6, M6, e6, rfl⟩ := hz.sl3
  have C6 := Lib.hid (CY.out.below hb)
  have ss6 := hb.size
  clear hfd hbt HFF HFT
  obtain ⟨x0, x1, x2, x3, xf⟩ := C6.out.bg
  obtain ⟨d0, d1, d2, d3, d4, df⟩ := C6.out.cf
  obtain ⟨o0, o1, o2, o3, o4, of⟩ := C6.out.op
  have g0 := C6.out.hl
  have g1 : w.heap.size < w6.heap.size := by omega
  have g2 : w.heap.size + 1 < w6.heap.size := by omega
  have g3 : w.heap.size + 1 + 1 < w6.heap.size := by omega
  obtain ⟨a0, a1, a2, a3, af⟩ := BG4.out.keep (hb.block _ (by omega))
  obtain ⟨b0, b1, b2, b3, bf⟩ := BG5.out.keep (hb.block _ (by omega))
  have h4 : w4.heap.size < w6.heap.size := by omega
  have h5 : w5.heap.size < w6.heap.size := by omega
  obtain ⟨U6, hV⟩ : ∃ V, V = w6.alloc (.cells #[.slice A6 L6 c6, .slice B6 M6 e6, .int .i64 z.nn, .int .i64 z.ne] 27) := ⟨_, rfl⟩
  have hbv : Below w6.heap.size w6 U6 := by rw [hV]; exact (Below.refl _ _).alloc (Nat.le_refl _) _
  have sv : w6.heap.size < U6.heap.size := by rw [hV]; simp
  have BG6 := Lib.hid (show Box4 U6 w6.heap.size _ _ _ _ from by rw [hV]; exact Box4.made w6 27 _ _ _ _)
  have CZ := Lib.hid ((CY.out.below hb).below hbv)
  have G6 := Lib.hid ((hz.below hbv).mono (S' := fun _ => True) fun _ _ _ => trivial)
  have sw := hb.size
  replace BG4 := Lib.hid ((BG4.out.keep (hb.block _ (by omega))).keep (hbv.block _ (by omega)))
  replace G4 := Lib.hid ((G4.out.below hb).below hbv)
  replace BG5 := Lib.hid ((BG5.out.keep (hb.block _ (by omega))).keep (hbv.block _ (by omega)))
  replace G5 := Lib.hid ((G5.out.below hb).below hbv)
  clear hz hb hbv x0 x1 x2 x3 xf d0 d1 d2 d3 d4 df o0 o1 o2 o3 o4 of g1 g2 g3
  have sv2 : w6.heap.size < U6.heap.size := by omega
  obtain ⟨x0, x1, x2, x3, xf⟩ := C6.out.bg
  obtain ⟨d0, d1, d2, d3, d4, df⟩ := C6.out.cf
  obtain ⟨o0, o1, o2, o3, o4, of⟩ := C6.out.op
  have g0 := C6.out.hl
  have g1 : w.heap.size < w6.heap.size := by omega
  have g2 : w.heap.size + 1 < w6.heap.size := by omega
  have g3 : w.heap.size + 1 + 1 < w6.heap.size := by omega
  go_wp2_with fail
  rw [← hV]
  clear hV x0 x1 x2 x3 xf d0 d1 d2 d3 d4 df o0 o1 o2 o3 o4 of g1 g2 g3 g0 C6 CY a0 a1 a2 a3 af b0 b1 b2 b3 bf
  have u4 : w4.heap.size < U6.heap.size := by omega
  have u5 : w5.heap.size < U6.heap.size := by omega
  have u6 : w6.heap.size < U6.heap.size := by omega
  have KD6 := Lib.hid (Below.refl U6.heap.size U6)
  refine (same_calls U6 (fun _ => True) y y _ _ _ _ G4.out G5.out).mono ?_
  rintro e w7 ⟨b, rfl, hb, hbel⟩
  obtain rfl : b = true := hb.2 (by trivial)
  clear hb
  have KD7 := Lib.hid (KD6.out.trans (hbel.mono KD6.out.size))
  have C7 := Lib.hid (CZ.out.below hbel)
  have ss7 := hbel.size
  obtain ⟨a0, a1, a2, a3, af⟩ := BG6.out.keep (hbel.block _ u6)
  have v6 : w6.heap.size < w7.heap.size := by omega
  clear hbel
  obtain ⟨x0, x1, x2, x3, xf⟩ := C7.out.bg
  obtain ⟨d0, d1, d2, d3, d4, df⟩ := C7.out.cf
  obtain ⟨o0, o1, o2, o3, o4, of⟩ := C7.out.op
  have g0 := C7.out.hl
  have g1 : w.heap.size < w7.heap.size := by omega
  have g2 : w.heap.size + 1 < w7.heap.size := by omega
  have g3 : w.heap.size + 1 + 1 < w7.heap.size := by omega
  go_wp2_with fail
  refine (same_calls w7 (fun _ => True) z z _ _ _ _ (G6.out.below KD7.out) (C7.out.hg.mono fun _ _ _ => trivial)).mono ?_
  rintro e w8 ⟨b, rfl, hb, hbel⟩
  obtain rfl : b = true := hb.2 (by trivial)
  clear hb
  have KD8 := Lib.hid (KD7.out.trans (hbel.mono KD7.out.size))
  have C8 := Lib.hid (C7.out.below hbel)
  have ss8 := hbel.size
  clear hbel C7 g0 a0 a1 a2 a3 af v6 x0 x1 x2 x3 xf d0 d1 d2 d3 d4 df o0 o1 o2 o3 o4 of g1 g2 g3
  obtain ⟨x0, x1, x2, x3, xf⟩ := C8.out.bg
  obtain ⟨d0, d1, d2, d3, d4, df⟩ := C8.out.cf
  obtain ⟨o0, o1, o2, o3, o4, of⟩ := C8.out.op
  have g0 := C8.out.hl
  have g1 : w.heap.size < w8.heap.size := by omega
  have g2 : w.heap.size + 1 < w8.heap.size := by omega
  have g3 : w.heap.size + 1 + 1 < w8.heap.size := by omega
  go_wp2_with fail
  have HT := Lib.hid (show b = (takesOf c z o != 0) from by
    rw [Bool.eq_iff_iff, HBT.out]
    simp)
  refine (takes_calls w8 _ c z _ _ o C8.out.hg HR.out).mono ?_
  generalize takesOf c z o = k at HT HBT ⊢
  rintro e w9 ⟨rfl, hbel⟩
  have KE := Lib.hid (C8.out.K.trans (hbel.mono C8.out.K.size))
  have hbk := HT.out
  subst hbk
  clear hbel HT HBT g0 C8 x0 x1 x2 x3 xf d0 d1 d2 d3 d4 df o0 o1 o2 o3 o4 of g1 g2 g3
  generalize hkb : (k != 0) = kb
  go_wp2
  go_ret
  exact ⟨rfl, KE.out⟩
end Go.Proofs.Ytpehmmdbjakkpaa
