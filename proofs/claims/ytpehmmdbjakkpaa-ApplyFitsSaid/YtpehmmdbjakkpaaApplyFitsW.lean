/- ApplyFits: whether any result can be that of any operation, and of any two whether they are the same. -/
import Derived.Test.YtpehmmdbjakkpaaLiveA
import Derived.Test.YtpehmmdbjakkpaaFitsA
import Derived.Test.YtpehmmdbjakkpaaRefSameB
namespace Go.Proofs.Ytpehmmdbjakkpaa
open Go.RowKit Go.Shelf
set_option linter.unusedSimpArgs false
set_option linter.unusedVariables false
structure FW (w : World) (c : CfgD) (g : GraphD) (vn ve : Value) (o : OpD) (r s : ResD) (vp vo vi up uo ui : Value) (W : World) : Prop where
  cg : CGO w c g vn ve o W
  hl : w.heap.size + 5 ≤ W.heap.size
  br : Box5 W (w.heap.size + 1 + 1 + 1) (.int .i64 r.st) (.int .i64 r.id) vp vo vi
  bs : Box5 W (w.heap.size + 1 + 1 + 1 + 1) (.int .i64 s.st) (.int .i64 s.id) up uo ui
  hr : Res W (fun k => k < w.heap.size) r (.agg #[.int .i64 r.st, .int .i64 r.id, vp, vo, vi])
  hs : Res W (fun k => k < w.heap.size) s (.agg #[.int .i64 s.st, .int .i64 s.id, up, uo, ui])
theorem FW.below {w : World} {c : CfgD} {g : GraphD} {vn ve : Value} {o : OpD} {r s : ResD} {vp vo vi up uo ui : Value} {W W' : World} (h : FW w c g vn ve o r s vp vo vi up uo ui W) (hb : Below W.heap.size W W') : FW w c g vn ve o r s vp vo vi up uo ui W' := by
  have h1 := h.hl
  exact ⟨h.cg.below hb, Nat.le_trans h1 hb.size, h.br.keep (hb.block _ (by omega)), h.bs.keep (hb.block _ (by omega)), h.hr.below hb, h.hs.below hb⟩
set_option maxRecDepth 100000 in
set_option maxHeartbeats 16000000 in
theorem applyFits_walk (w : World) (c : CfgD) (g : GraphD) (vn ve : Value) (hg : Gr w (fun _ => True) g vn ve) (o : OpD) (v : Value) (r : ResD) (hr : Res w (fun _ => True) r v) (u : Value) (s : ResD) (hs : Res w (fun _ => True) s u) : Calls Try.prog 13 #[c.val, .agg #[vn, ve, .int .i64 g.nn, .int .i64 g.ne], o.val, v, u] w fun e w' => e = .returned (.bool true) ∧ Below w.heap.size w w' := by
  obtain ⟨⟨A1, c1, rfl⟩, ⟨A2, c2, rfl⟩⟩ := hg.slices
  obtain ⟨a1, d1, a2, d2, a3, d3, rfl, _⟩ := hr.slices
  obtain ⟨a4, d4, a5, d5, a6, d6, rfl, _⟩ := hs.slices
  obtain ⟨V, hV⟩ : ∃ V, V = ((w.alloc (.cells #[.int .i64 c.nodes, .int .i64 c.edges, .int .i64 c.props, .int .i64 c.ids, .int .i64 c.eids] 23)).alloc (.cells #[.slice A1 g.nodes.length c1, .slice A2 g.edges.length c2, .int .i64 g.nn, .int .i64 g.ne] 27)).alloc (.cells #[.int .i64 o.k, .int .i64 o.a, .int .i64 o.b, .int .i64 o.p, .int .i64 o.v] 73) := ⟨_, rfl⟩
  obtain ⟨hc0, sV⟩ := cgo_made w _ c g _ _ o hg V hV
  obtain ⟨W0, hW⟩ : ∃ W0, W0 = (V.alloc (.cells #[.int .i64 r.st, .int .i64 r.id, .slice a1 r.ps.length d1, .slice a2 r.os.length d2, .slice a3 r.is.length d3] 75)).alloc (.cells #[.int .i64 s.st, .int .i64 s.id, .slice a4 s.ps.length d4, .slice a5 s.os.length d5, .slice a6 s.is.length d6] 75) := ⟨_, rfl⟩
  have hbV : Below V.heap.size V W0 := by rw [hW]; exact (by repeat (first | (with_reducible exact Below.refl _ _) | (with_reducible exact Below.refl _ _) | (with_reducible refine Below.drew ?_) | (with_reducible refine Below.alloc ?_ (by simp; try omega) _) | (with_reducible refine Below.setCell ?_ (by simp; try omega) _)))
  have sW : W0.heap.size = w.heap.size + 5 := by rw [hW]; simp; omega
  have F0 := Lib.hid (show FW w c g _ _ o r s _ _ _ _ _ _ W0 from ⟨hc0.below hbV, by omega,
    Box5.of (n := 75) (by rw [hW, show w.heap.size + 1 + 1 + 1 = V.heap.size by omega]; exact (Below.heap_alloc _ _ _ (by simp)).trans (heap_alloc_new V _)),
    Box5.of (n := 75) (by rw [hW, show w.heap.size + 1 + 1 + 1 + 1 = (V.alloc (.cells #[.int .i64 r.st, .int .i64 r.id, .slice a1 r.ps.length d1, .slice a2 r.os.length d2, .slice a3 r.is.length d3] 75)).heap.size by simp; omega]; exact heap_alloc_new _ _),
    ((hr.bound.mono (S' := fun k => k < w.heap.size) fun k hk _ => hk.2).below hc0.K).below hbV,
    ((hs.bound.mono (S' := fun k => k < w.heap.size) fun k hk _ => hk.2).below hc0.K).below hbV⟩)
  subst hV
  clear hg hr hs hc0 sV hbV sW
  unfold OpD.val CfgD.val
  go_enter Try.func13, Try.ntmps13
  go_wp2_with fail
  rw [← hW]
  clear hW
  refine (live11_calls W0).mono ?_
  rintro e w1 ⟨rfl, hb⟩
  have F1 := Lib.hid (F0.out.below hb)
  clear hb F0
  obtain ⟨x0, x1, x2, x3, xf⟩ := F1.out.cg.bg
  obtain ⟨e0, e1, e2, e3, e4, ef⟩ := F1.out.cg.cf
  obtain ⟨o0, o1, o2, o3, o4, of⟩ := F1.out.cg.op
  obtain ⟨r0, r1, r2, r3, r4, rf⟩ := F1.out.br
  obtain ⟨s0, s1, s2, s3, s4, sf⟩ := F1.out.bs
  have hl := F1.out.hl
  have g0 : w.heap.size < w1.heap.size := by omega
  have g1 : w.heap.size + 1 < w1.heap.size := by omega
  have g2 : w.heap.size + 1 + 1 < w1.heap.size := by omega
  have g3 : w.heap.size + 1 + 1 + 1 < w1.heap.size := by omega
  have g4 : w.heap.size + 1 + 1 + 1 + 1 < w1.heap.size := by omega
  clear hl
  go_wp2_with fail
  refine (may11_calls w1 _ c g _ _ F1.out.cg.hg).mono ?_
  rintro e w2 ⟨b, rfl, hmay, hb⟩
  have F2 := Lib.hid (F1.out.below hb)
  clear hb F1 x0 x1 x2 x3 xf e0 e1 e2 e3 e4 ef o0 o1 o2 o3 o4 of r0 r1 r2 r3 r4 rf s0 s1 s2 s3 s4 sf g0 g1 g2 g3 g4
  cases b
  case false =>
    go_wp2
    go_ret
    exact ⟨rfl, F2.out.cg.K⟩
  obtain ⟨hfew, hm⟩ := hmay rfl
  have HR := Lib.hid ((hm.start hfew).rdy hm.head.cfg)
  clear hfew hm hmay
  obtain ⟨x0, x1, x2, x3, xf⟩ := F2.out.cg.bg
  obtain ⟨e0, e1, e2, e3, e4, ef⟩ := F2.out.cg.cf
  obtain ⟨o0, o1, o2, o3, o4, of⟩ := F2.out.cg.op
  obtain ⟨r0, r1, r2, r3, r4, rf⟩ := F2.out.br
  obtain ⟨s0, s1, s2, s3, s4, sf⟩ := F2.out.bs
  have hl := F2.out.hl
  have g0 : w.heap.size < w2.heap.size := by omega
  have g1 : w.heap.size + 1 < w2.heap.size := by omega
  have g2 : w.heap.size + 1 + 1 < w2.heap.size := by omega
  have g3 : w.heap.size + 1 + 1 + 1 < w2.heap.size := by omega
  have g4 : w.heap.size + 1 + 1 + 1 + 1 < w2.heap.size := by omega
  clear hl
  go_wp2_with fail
  refine (few11_calls w2 _ r _ F2.out.hr).mono ?_
  rintro e w3 ⟨b, rfl, hb⟩
  have F3 := Lib.hid (F2.out.below hb)
  clear hb F2 x0 x1 x2 x3 xf e0 e1 e2 e3 e4 ef o0 o1 o2 o3 o4 of r0 r1 r2 r3 r4 rf s0 s1 s2 s3 s4 sf g0 g1 g2 g3 g4
  cases b
  case false =>
    go_wp2
    go_ret
    exact ⟨rfl, F3.out.cg.K⟩
  obtain ⟨x0, x1, x2, x3, xf⟩ := F3.out.cg.bg
  obtain ⟨e0, e1, e2, e3, e4, ef⟩ := F3.out.cg.cf
  obtain ⟨o0, o1, o2, o3, o4, of⟩ := F3.out.cg.op
  obtain ⟨r0, r1, r2, r3, r4, rf⟩ := F3.out.br
  obtain ⟨s0, s1, s2, s3, s4, sf⟩ := F3.out.bs
  have hl := F3.out.hl
  have g0 : w.heap.size < w3.heap.size := by omega
  have g1 : w.heap.size + 1 < w3.heap.size := by omega
  have g2 : w.heap.size + 1 + 1 < w3.heap.size := by omega
  have g3 : w.heap.size + 1 + 1 + 1 < w3.heap.size := by omega
  have g4 : w.heap.size + 1 + 1 + 1 + 1 < w3.heap.size := by omega
  clear hl
  go_wp2_with fail
  refine (few11_calls w3 _ s _ F3.out.hs).mono ?_
  rintro e w4 ⟨b, rfl, hb⟩
  have F4 := Lib.hid (F3.out.below hb)
  clear hb F3 x0 x1 x2 x3 xf e0 e1 e2 e3 e4 ef o0 o1 o2 o3 o4 of r0 r1 r2 r3 r4 rf s0 s1 s2 s3 s4 sf g0 g1 g2 g3 g4
  cases b
  case false =>
    go_wp2
    go_ret
    exact ⟨rfl, F4.out.cg.K⟩
  obtain ⟨x0, x1, x2, x3, xf⟩ := F4.out.cg.bg
  obtain ⟨e0, e1, e2, e3, e4, ef⟩ := F4.out.cg.cf
  obtain ⟨o0, o1, o2, o3, o4, of⟩ := F4.out.cg.op
  obtain ⟨r0, r1, r2, r3, r4, rf⟩ := F4.out.br
  obtain ⟨s0, s1, s2, s3, s4, sf⟩ := F4.out.bs
  have hl := F4.out.hl
  have g0 : w.heap.size < w4.heap.size := by omega
  have g1 : w.heap.size + 1 < w4.heap.size := by omega
  have g2 : w.heap.size + 1 + 1 < w4.heap.size := by omega
  have g3 : w.heap.size + 1 + 1 + 1 < w4.heap.size := by omega
  have g4 : w.heap.size + 1 + 1 + 1 + 1 < w4.heap.size := by omega
  clear hl
  go_wp2_with fail
  refine (fits_calls w4 _ _ c g _ _ o r _ F4.out.cg.hg HR.out F4.out.hr).mono ?_
  rintro e w5 ⟨yn, ye, y, b, rfl, hz, hfd, hb⟩
  obtain ⟨⟨A5, L5, c5, rfl⟩, B5, M5, e5, rfl⟩ := hz.sl3
  have F5 := Lib.hid (F4.out.below hb)
  have HFD := Lib.hid hfd
  clear hb hfd F4 x0 x1 x2 x3 xf e0 e1 e2 e3 e4 ef o0 o1 o2 o3 o4 of r0 r1 r2 r3 r4 rf s0 s1 s2 s3 s4 sf g0 g1 g2 g3 g4
  obtain ⟨U5, hV⟩ : ∃ V, V = w5.alloc (.cells #[.slice A5 L5 c5, .slice B5 M5 e5, .int .i64 y.nn, .int .i64 y.ne] 27) := ⟨_, rfl⟩
  have hbv : Below w5.heap.size w5 U5 := by rw [hV]; exact (Below.refl _ _).alloc (Nat.le_refl _) _
  have sv : w5.heap.size < U5.heap.size := by rw [hV]; simp
  have B5' := Lib.hid (show Box4 U5 w5.heap.size _ _ _ _ from by rw [hV]; exact Box4.made w5 27 _ _ _ _)
  have G5 := Lib.hid ((hz.below hbv).mono (S' := fun _ => True) fun _ _ _ => trivial)
  have FU := Lib.hid (F5.out.below hbv)
  clear hbv hz
  obtain ⟨x0, x1, x2, x3, xf⟩ := F5.out.cg.bg
  obtain ⟨e0, e1, e2, e3, e4, ef⟩ := F5.out.cg.cf
  obtain ⟨o0, o1, o2, o3, o4, of⟩ := F5.out.cg.op
  obtain ⟨r0, r1, r2, r3, r4, rf⟩ := F5.out.br
  obtain ⟨s0, s1, s2, s3, s4, sf⟩ := F5.out.bs
  have hl := F5.out.hl
  have g0 : w.heap.size < w5.heap.size := by omega
  have g1 : w.heap.size + 1 < w5.heap.size := by omega
  have g2 : w.heap.size + 1 + 1 < w5.heap.size := by omega
  have g3 : w.heap.size + 1 + 1 + 1 < w5.heap.size := by omega
  have g4 : w.heap.size + 1 + 1 + 1 + 1 < w5.heap.size := by omega
  clear hl
  go_wp2_with fail
  rw [← hV]
  clear hV F5 x0 x1 x2 x3 xf e0 e1 e2 e3 e4 ef o0 o1 o2 o3 o4 of r0 r1 r2 r3 r4 rf s0 s1 s2 s3 s4 sf g0 g1 g2 g3 g4
  refine (refFits_calls U5 _ _ c g _ _ o r _ FU.out.cg.hg HR.out FU.out.hr).mono ?_
  rintro e w6 ⟨zn, ze, z, b', rfl, hz, hfd, hb⟩
  obtain ⟨hyz, hbb⟩ := HFD.out.eq hfd
  subst hyz hbb
  obtain ⟨⟨A6, L6, c6, rfl⟩, B6, M6, e6, rfl⟩ := hz.sl3
  have F6 := Lib.hid (FU.out.below hb)
  have ss6 := hb.size
  obtain ⟨V6, hV⟩ : ∃ V, V = w6.alloc (.cells #[.slice A6 L6 c6, .slice B6 M6 e6, .int .i64 y.nn, .int .i64 y.ne] 27) := ⟨_, rfl⟩
  have hbv : Below w6.heap.size w6 V6 := by rw [hV]; exact (Below.refl _ _).alloc (Nat.le_refl _) _
  have sv6 : w6.heap.size < V6.heap.size := by rw [hV]; simp
  have B6' := Lib.hid (show Box4 V6 w6.heap.size _ _ _ _ from by rw [hV]; exact Box4.made w6 27 _ _ _ _)
  have G6 := Lib.hid ((hz.below hbv).mono (S' := fun _ => True) fun _ _ _ => trivial)
  have FX := Lib.hid (F6.out.below hbv)
  replace B5' := Lib.hid ((B5'.out.keep (hb.block _ sv)).keep (hbv.block _ (by omega)))
  replace G5 := Lib.hid ((G5.out.below hb).below hbv)
  clear hbv hb hz hfd HFD FU F6
  go_wp2_with fail
  rw [← hV]
  clear hV
  obtain ⟨x0, x1, x2, x3, xf⟩ := FX.out.cg.bg
  obtain ⟨e0, e1, e2, e3, e4, ef⟩ := FX.out.cg.cf
  obtain ⟨o0, o1, o2, o3, o4, of⟩ := FX.out.cg.op
  obtain ⟨r0, r1, r2, r3, r4, rf⟩ := FX.out.br
  obtain ⟨s0, s1, s2, s3, s4, sf⟩ := FX.out.bs
  have hl := FX.out.hl
  have g0 : w.heap.size < V6.heap.size := by omega
  have g1 : w.heap.size + 1 < V6.heap.size := by omega
  have g2 : w.heap.size + 1 + 1 < V6.heap.size := by omega
  have g3 : w.heap.size + 1 + 1 + 1 < V6.heap.size := by omega
  have g4 : w.heap.size + 1 + 1 + 1 + 1 < V6.heap.size := by omega
  clear hl
  have j5 : w5.heap.size < V6.heap.size := by omega
  have j6 : w6.heap.size < V6.heap.size := by omega
  obtain ⟨b0, b1, b2, b3, bf⟩ := B5'.out
  obtain ⟨k0, k1, k2, k3, kf⟩ := B6'.out
  refine wp_region_schedK (fun _ => True) [(0, true), (1, true), (2, false), (3, true), (4, true), (5, true), (6, true), (7, true), (8, true), (9, true), (10, true), (12, true), (13, true), (11, false), (14, false), (15, true), (16, true), (17, true)] (by kernel_rfl) (by kernel_rfl) (fun hS => ?_)
  have HK := Lib.hid hS
  clear hS
  have KD := Lib.hid (Below.refl V6.heap.size V6).drew
  revert HK KD
  generalize V6.drew = Wd
  intro HK KD
  repeat (refine sched_take (v := ?_) (by simp only [List.getElem?_toArray, List.getElem?_cons_succ, List.getElem?_cons_zero]; rfl) (Or.inl ⟨by rfl, fun W hW => ?_⟩) HK.out ?_; rotate_left; (have hc := fun b o hb => hW.cell b o trivial hb; clear hW; go_simp; with_reducible rfl); simp only [Act.put, List.setIfInBounds_toArray, List.set_cons_zero, List.set_cons_succ])
  refine sched_step (by simp only [List.getElem?_toArray, List.getElem?_cons_succ, List.getElem?_cons_zero]; rfl) ?_
  go_wp2_with fail
  refine (refSameB_calls Wd (fun _ => True) y y _ _ _ _ (G5.out.below KD.out) (G6.out.below KD.out)).mono ?_
  rintro e w7 ⟨q, rfl, hq, hbel⟩
  obtain rfl : q = true := hq.2 (by trivial)
  have HK7 := Lib.hid (HK.out.below hbel)
  have KD7 := Lib.hid (KD.out.trans (hbel.mono KD.out.size))
  clear hbel hq
  have hbb : (b == b) = true := by simp
  go_wp2_with fail
  refine sched_on HK7.out ?_
  repeat (refine sched_take (v := ?_) (by simp only [List.getElem?_toArray, List.getElem?_cons_succ, List.getElem?_cons_zero]; rfl) (Or.inl ⟨by rfl, fun W hW => ?_⟩) HK7.out ?_; rotate_left; (have hc := fun b o hb => hW.cell b o trivial hb; clear hW; go_simp; with_reducible rfl); simp only [Act.put, List.setIfInBounds_toArray, List.set_cons_zero, List.set_cons_succ])
  refine sched_step (by simp only [List.getElem?_toArray, List.getElem?_cons_succ, List.getElem?_cons_zero]; rfl) ?_
  go_wp2_with fail
  refine (appSame_calls w7 _ _ r s _ _ (FX.out.hr.below KD7.out) (FX.out.hs.below KD7.out)).mono ?_
  rintro e w8 ⟨p, rfl, hp, hbel⟩
  have HK8 := Lib.hid (HK7.out.below hbel)
  have KD8 := Lib.hid (KD7.out.trans (hbel.mono KD7.out.size))
  have HP := Lib.hid hp
  clear hbel hp
  go_wp2_with fail
  refine sched_on HK8.out ?_
  repeat (refine sched_take (v := ?_) (by simp only [List.getElem?_toArray, List.getElem?_cons_succ, List.getElem?_cons_zero]; rfl) (Or.inl ⟨by rfl, fun W hW => ?_⟩) HK8.out ?_; rotate_left; (have hc := fun b o hb => hW.cell b o trivial hb; clear hW; go_simp; with_reducible rfl); simp only [Act.put, List.setIfInBounds_toArray, List.set_cons_zero, List.set_cons_succ])
  refine sched_step (by simp only [List.getElem?_toArray, List.getElem?_cons_succ, List.getElem?_cons_zero]; rfl) ?_
  go_wp2_with fail
  refine (refSameR_calls w8 _ _ r s _ _ (FX.out.hr.below KD8.out) (FX.out.hs.below KD8.out)).mono ?_
  rintro e w9 ⟨q, rfl, hq, hbel⟩
  obtain rfl : p = q := Bool.eq_iff_iff.2 (HP.out.trans hq.symm)
  have HK9 := Lib.hid (HK8.out.below hbel)
  have KD9 := Lib.hid (KD8.out.trans (hbel.mono KD8.out.size))
  clear hbel hq HP
  go_wp2_with fail
  refine sched_on HK9.out ?_
  repeat (refine sched_take (v := ?_) (by simp only [List.getElem?_toArray, List.getElem?_cons_succ, List.getElem?_cons_zero]; rfl) (Or.inl ⟨by rfl, fun W hW => ?_⟩) HK9.out ?_; rotate_left; (have hc := fun b o hb => hW.cell b o trivial hb; clear hW; go_simp; with_reducible rfl); simp only [Act.put, List.setIfInBounds_toArray, List.set_cons_zero, List.set_cons_succ])
  refine sched_done ?_
  have KE := Lib.hid (FX.out.cg.K.trans (KD9.out.mono FX.out.cg.K.size))
  clear HK HK7 HK8 HK9
  go_wp2
  go_ret
  exact ⟨rfl, KE.out⟩
end Go.Proofs.Ytpehmmdbjakkpaa
