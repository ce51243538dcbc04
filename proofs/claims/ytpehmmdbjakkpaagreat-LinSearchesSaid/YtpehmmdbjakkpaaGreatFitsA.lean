/- Whether a result can be: apply.Fits, tendrilref11.Fits. -/
import Derived.Test.YtpehmmdbjakkpaaGreatTakesA
namespace Go.Proofs.YtpehmmdbjakkpaaGreat
open Go.RowKit Go.Shelf
set_option linter.unusedSimpArgs false
set_option linter.unusedVariables false
def ResD.full : ResD := ⟨3, 0, [], [], []⟩
/-- The graph and whether it fits. -/
def FitsD (c : CfgD) (g : GraphD) (o : OpD) (r : ResD) (z : GraphD) (b : Bool) : Prop := ((doOf c g o).2 = r ∧ z = (doOf c g o).1 ∧ b = true) ∨ (¬ (doOf c g o).2 = r ∧ z = g ∧ (b = true ↔ r = ResD.full ∧ ¬ takesOf c g o = 0))
theorem FitsD.eq {c : CfgD} {g : GraphD} {o : OpD} {r : ResD} {z z' : GraphD} {b b' : Bool} (h : FitsD c g o r z b) (h' : FitsD c g o r z' b') : z = z' ∧ b = b' := by
 rcases h with ⟨h1, rfl, rfl⟩ | ⟨h1, rfl, h3⟩ <;> rcases h' with ⟨h4, rfl, rfl⟩ | ⟨h4, rfl, h6⟩
 ·
  exact ⟨rfl, rfl⟩
 ·
  exact absurd h1 h4
 ·
  exact absurd h4 h1
 ·
  exact ⟨rfl, Bool.eq_iff_iff.2 (h3.trans h6.symm)⟩
def FitsPost (w : World) (c : CfgD) (g : GraphD) (o : OpD) (r : ResD) (e : Ending) (w' : World) : Prop := ∃ vn ve z b, e = .returned (.tuple #[.agg #[vn, ve, .int .i64 z.nn, .int .i64 z.ne], .bool b]) ∧ Gr w' (fun k => w.heap.size ≤ k) z vn ve ∧ FitsD c g o r z b ∧ Below w.heap.size w w'
structure FB (w : World) (c : CfgD) (g : GraphD) (vn ve : Value) (o : OpD) (r : ResD) (vp vo vi : Value) (W : World) : Prop where
 cg : CGO w c g vn ve o W
 hl : w.heap.size + 5 ≤ W.heap.size
 br : Box5 W (w.heap.size + 1 + 1 + 1) (.int .i64 r.st) (.int .i64 r.id) vp vo vi
 b8 : Box4 W (w.heap.size + 1 + 1 + 1 + 1) (.slice none 0 0) (.slice none 0 0) (.int .i64 0) (.int .i64 0)
 hr : Res W (fun k => k < w.heap.size) r (.agg #[.int .i64 r.st, .int .i64 r.id, vp, vo, vi])
theorem FB.below {w : World} {c : CfgD} {g : GraphD} {vn ve : Value} {o : OpD} {r : ResD} {vp vo vi : Value} {W W' : World} (h : FB w c g vn ve o r vp vo vi W) (hb : Below W.heap.size W W') : FB w c g vn ve o r vp vo vi W' := by
 have h1 := h.hl
 exact ⟨h.cg.below hb, Nat.le_trans h1 hb.size, h.br.keep (hb.block _ (by omega)), h.b8.keep (hb.block _ (by omega)), h.hr.below hb⟩
theorem Res.bound {w : World} {S : Nat → Prop} {r : ResD} {v : Value} (h : Res w S r v) : Res w (fun k => S k ∧ k < w.heap.size) r v := h.mono fun _ h1 h2 => ⟨h1, h2⟩
theorem fb_made (w : World) (S S' : Nat → Prop) (c : CfgD) (g : GraphD) (vn ve : Value) (o : OpD) (r : ResD) (vp vo vi : Value) (hg : Gr w S g vn ve) (hr : Res w S' r (.agg #[.int .i64 r.st, .int .i64 r.id, vp, vo, vi])) (W : World) (hw : W = ((((w.alloc (.cells #[.int .i64 c.nodes, .int .i64 c.edges, .int .i64 c.props, .int .i64 c.ids, .int .i64 c.eids] 23)).alloc (.cells #[vn, ve, .int .i64 g.nn, .int .i64 g.ne] 31)).alloc (.cells #[.int .i64 o.k, .int .i64 o.a, .int .i64 o.b, .int .i64 o.p, .int .i64 o.v] 46)).alloc (.cells #[.int .i64 r.st, .int .i64 r.id, vp, vo, vi] 50)).alloc (.cells #[.slice none 0 0, .slice none 0 0, .int .i64 0, .int .i64 0] 31)) : FB w c g vn ve o r vp vo vi W := by
 obtain ⟨V, hV⟩ : ∃ V, V = ((w.alloc (.cells #[.int .i64 c.nodes, .int .i64 c.edges, .int .i64 c.props, .int .i64 c.ids, .int .i64 c.eids] 23)).alloc (.cells #[vn, ve, .int .i64 g.nn, .int .i64 g.ne] 31)).alloc (.cells #[.int .i64 o.k, .int .i64 o.a, .int .i64 o.b, .int .i64 o.p, .int .i64 o.v] 46) := ⟨_, rfl⟩
 obtain ⟨hc, sV⟩ := cgo_made w S c g vn ve o hg V hV
 rw [← hV] at hw
 have hb : Below V.heap.size V W := by rw [hw]; exact (by repeat (first | (with_reducible exact Below.refl _ _) | (with_reducible exact Below.refl _ _) | (with_reducible refine Below.drew ?_) | (with_reducible refine Below.alloc ?_ (by simp; try omega) _) | (with_reducible refine Below.setCell ?_ (by simp; try omega) _)))
 have sW : W.heap.size = w.heap.size + 5 := by rw [hw]; simp; omega
 refine ⟨hc.below hb, by omega, Box5.of (n := 50) ?_, Box4.of (n := 31) ?_, ((hr.bound.mono (S' := fun k => k < w.heap.size) fun k hk _ => hk.2).below hc.K).below (hb.mono (Nat.le_refl _))⟩
 ·
  rw [hw, show w.heap.size + 1 + 1 + 1 = V.heap.size by omega]; exact (Below.heap_alloc _ _ _ (by simp)).trans (heap_alloc_new V _)
 ·
  rw [hw, show w.heap.size + 1 + 1 + 1 + 1 = (V.alloc (.cells #[.int .i64 r.st, .int .i64 r.id, vp, vo, vi] 50)).heap.size by simp; omega]; exact heap_alloc_new _ _
set_option maxRecDepth 100000 in
set_option maxHeartbeats 16000000 in
theorem fits_calls (w : World) (S S' : Nat → Prop) (c : CfgD) (g : GraphD) (vn ve : Value) (o : OpD) (r : ResD) (v : Value) (h : Gr w S g vn ve) (hs : Rdy c g) (hr : Res w S' r v) : Calls Tryz.prog 37 #[c.val, .agg #[vn, ve, .int .i64 g.nn, .int .i64 g.ne], o.val, v] w (FitsPost w c g o r) := by
 obtain ⟨⟨A1, c1, rfl⟩, ⟨A2, c2, rfl⟩⟩ := h.slices
 obtain ⟨a1, d1, a2, d2, a3, d3, rfl, _⟩ := hr.slices
 obtain ⟨W0, hW⟩ : ∃ W0, W0 = ((((w.alloc (.cells #[.int .i64 c.nodes, .int .i64 c.edges, .int .i64 c.props, .int .i64 c.ids, .int .i64 c.eids] 23)).alloc (.cells #[.slice A1 g.nodes.length c1, .slice A2 g.edges.length c2, .int .i64 g.nn, .int .i64 g.ne] 31)).alloc (.cells #[.int .i64 o.k, .int .i64 o.a, .int .i64 o.b, .int .i64 o.p, .int .i64 o.v] 46)).alloc (.cells #[.int .i64 r.st, .int .i64 r.id, .slice a1 r.ps.length d1, .slice a2 r.os.length d2, .slice a3 r.is.length d3] 50)).alloc (.cells #[.slice none 0 0, .slice none 0 0, .int .i64 0, .int .i64 0] 31) := ⟨_, rfl⟩
 have F0 := Lib.hid (fb_made w S S' c g _ _ o r _ _ _ h hr W0 hW)
 have HS := Lib.hid hs
 clear h hs hr
 unfold OpD.val CfgD.val
 go_enter Tryz.func37, Tryz.ntmps37
 go_wp2_with fail
 rw [← hW]
 clear hW
 refine (do_calls W0 _ c g _ _ o F0.out.cg.hg HS.out).mono ?_
 rintro e w1 hp
 obtain ⟨A3, L3, c3, A4, L4, c4, p1, q1, p2, q2, p3, q3, rfl, hz, hx, hb⟩ := do_slices hp
 have HT := Lib.hid (show ∀ z b, FitsD c g o r z b ↔ (((doOf c g o).2 = r ∧ z = (doOf c g o).1 ∧ b = true) ∨ (¬ (doOf c g o).2 = r ∧ z = g ∧ (b = true ↔ r = ResD.full ∧ ¬ takesOf c g o = 0))) from fun z b => Iff.rfl)
 revert HT hz hx
 generalize doOf c g o = d
 intro hz hx HT
 obtain ⟨z, x⟩ := d
 simp only at HT hz hx ⊢
 obtain ⟨Wa, hV⟩ : ∃ V, V = (w1.alloc (.cells #[.slice A3 L3 c3, .slice A4 L4 c4, .int .i64 z.nn, .int .i64 z.ne] 31)).alloc (.cells #[.int .i64 x.st, .int .i64 x.id, .slice p1 x.ps.length q1, .slice p2 x.os.length q2, .slice p3 x.is.length q3] 50) := ⟨_, rfl⟩
 have hbv : Below w1.heap.size w1 Wa := by rw [hV]; exact (by repeat (first | (with_reducible exact Below.refl _ _) | (with_reducible exact Below.refl _ _) | (with_reducible refine Below.drew ?_) | (with_reducible refine Below.alloc ?_ (by simp; try omega) _) | (with_reducible refine Below.setCell ?_ (by simp; try omega) _)))
 have sv : w1.heap.size + 1 < Wa.heap.size := by rw [hV]; simp
 have BG := Lib.hid (show Box4 Wa w1.heap.size _ _ _ _ from by rw [hV]; exact (Box4.made w1 31 (.slice A3 L3 c3) (.slice A4 L4 c4) (.int .i64 z.nn) (.int .i64 z.ne)).keep (Below.heap_alloc _ _ _ (by simp)))
 have F1 := Lib.hid (F0.out.below hb)
 have FA := Lib.hid (F1.out.below hbv)
 have GZ := Lib.hid (hz.below hbv)
 have RX := Lib.hid (hx.below hbv)
 have l0 := F0.out.hl
 have l1 := F1.out.hl
 have hbs := hb.size
 clear hp hz hx hb hbv
 obtain ⟨r0, r1, r2, r3, r4, rf⟩ := F1.out.br
 have g3 : w.heap.size + 1 + 1 + 1 < w1.heap.size := by omega
 have g2 : w.heap.size + 1 + 1 < w1.heap.size := by omega
 have g1 : w.heap.size + 1 < w1.heap.size := by omega
 have g0 : w.heap.size < w1.heap.size := by omega
 go_wp2_with fail
 rw [← hV]
 clear hV r0 r1 r2 r3 r4 rf g3 g2 g1 g0
 refine (appSame_calls Wa _ _ x r _ _ RX.out FA.out.hr).mono ?_
 rintro e w2 ⟨b, rfl, hq, hb⟩
 have hbs2 := hb.size
 have F2 := Lib.hid (FA.out.below hb)
 have GZ2 := Lib.hid (GZ.out.below hb)
 have BG2 := Lib.hid (BG.out.keep (hb.block _ (by omega)))
 have HQ := Lib.hid hq
 have l2 := F2.out.hl
 clear hb hq F1 FA GZ BG RX
 cases b
 case true =>
  obtain ⟨x0, x1, x2, x3, xf⟩ := BG2.out
  obtain ⟨y0, y1, y2, y3, yf⟩ := F2.out.b8
  have n1 : ¬ w1.heap.size = w.heap.size + 1 + 1 + 1 + 1 := by omega
  have n2 : ¬ w.heap.size + 1 + 1 + 1 + 1 = w1.heap.size := by omega
  go_wp2
  refine bodyPost_ret (v := .tuple #[.agg #[.slice A3 L3 c3, .slice A4 L4 c4, .int .i64 z.nn, .int .i64 z.ne], .bool true]) (by simp [results, Tryz.results37, go_sem, y0, y1, y2, y3]; try rfl) rfl ?_
  have hs4 : ∀ j, j ≠ w.heap.size + 1 + 1 + 1 + 1 → (set4 w2 (w.heap.size + 1 + 1 + 1 + 1) (.slice A3 L3 c3) (.slice A4 L4 c4) (.int .i64 z.nn) (.int .i64 z.ne)).heap[j]? = w2.heap[j]? := fun j hj => set4_heap _ _ _ _ _ _ _ hj
  exact ⟨_, _, z, true, rfl, (GZ2.out.move (w' := set4 w2 (w.heap.size + 1 + 1 + 1 + 1) _ _ _ _) fun j hj _ => hs4 j (by (try simp only at hj); omega)).mono fun j hj _ => by (try simp only at hj ⊢); omega, (HT.out z true).2 (.inl ⟨HQ.out.1 (by trivial), rfl, rfl⟩), set4_below F2.out.cg.K (by omega) _ _ _ _⟩
 clear BG2 GZ2
 have HNQ := Lib.hid (show ¬ x = r from fun e => by have := HQ.out.2 e; cases this)
 obtain ⟨x0, x1, x2, x3, xf⟩ := F2.out.cg.bg
 obtain ⟨d0, d1', d2', d3', d4, df⟩ := F2.out.cg.cf
 obtain ⟨o0, o1, o2, o3, o4, of⟩ := F2.out.cg.op
 obtain ⟨r0, r1, r2, r3, r4, rf⟩ := F2.out.br
 have g0 : w.heap.size < w2.heap.size := by omega
 have g1 : w.heap.size + 1 < w2.heap.size := by omega
 have g2 : w.heap.size + 1 + 1 < w2.heap.size := by omega
 have g3 : w.heap.size + 1 + 1 + 1 < w2.heap.size := by omega
 have n1 : ¬ w.heap.size = w.heap.size + 1 + 1 + 1 + 1 := by omega
 have n2 : ¬ w.heap.size + 1 = w.heap.size + 1 + 1 + 1 + 1 := by omega
 have n3 : ¬ w.heap.size + 1 + 1 = w.heap.size + 1 + 1 + 1 + 1 := by omega
 have n4 : ¬ w.heap.size + 1 + 1 + 1 = w.heap.size + 1 + 1 + 1 + 1 := by omega
 have n5 : ¬ w.heap.size + 1 + 1 = w.heap.size := by omega
 have n6 : ¬ w.heap.size + 1 + 1 + 1 = w.heap.size := by omega
 have n7 : ¬ w.heap.size + 1 = w.heap.size := by omega
 have n8 : ¬ w.heap.size = w.heap.size + 1 := by omega
 have n9 : ¬ w.heap.size = w.heap.size + 1 + 1 := by omega
 have n10 : ¬ w.heap.size = w.heap.size + 1 + 1 + 1 := by omega
 go_wp2_with fail
 refine wp_region_schedK (fun k => k ≠ w.heap.size + 1 + 1 + 1 + 1) [(0, true), (2, true), (3, true), (1, false), (4, false), (5, true), (6, true), (7, true), (8, true), (9, false), (10, true), (11, true), (12, false), (13, true)] (by kernel_rfl) (by kernel_rfl) (fun hS => ?_)
 have HK := Lib.hid hS
 clear hS
 have KD := Lib.hid (Below.refl w2.heap.size w2).drew
 revert HK KD
 generalize w2.drew = Wd
 intro HK KD
 repeat (refine sched_take (v := ?_) (by simp only [opT, opS, opZ]; rfl) (Or.inl ⟨by rfl, fun W hW => ?_⟩) HK.out ?_; rotate_left; (have hc := fun b o hn hb => hW.cell b o hn hb; clear hW; go_simp; with_reducible rfl); simp only [Act.put, putT, putZ, putS])
 refine sched_step (by simp only [opT, opS, opZ]; rfl) ?_
 go_wp2_with fail
 refine (ownA_calls Wd _ g _ _ (F2.out.cg.hg.below KD.out) HS.out.small).mono ?_
 rintro e w3 ⟨zn, ze, nvs, rfl, hog, hb⟩
 have hgg := hog.gr
 obtain ⟨⟨A5, L5, c5, rfl⟩, A6, L6, c6, rfl⟩ := hgg.sl3
 have HK3 := Lib.hid (HK.out.below hb)
 have KD3 := Lib.hid (KD.out.trans (hb.mono KD.out.size))
 have G3 := Lib.hid ((hgg.mono (S' := fun k => w2.heap.size ≤ k) fun k hk _ => Nat.le_trans KD.out.size hk))
 clear hb hgg hog
 go_wp2_with fail
 refine sched_on HK3.out ?_
 repeat (refine sched_take (v := ?_) (by simp only [opT, opS, opZ]; rfl) (Or.inl ⟨by rfl, fun W hW => ?_⟩) HK3.out ?_; rotate_left; (have hc := fun b o hn hb => hW.cell b o hn hb; clear hW; go_simp; with_reducible rfl); simp only [Act.put, putT, putZ, putS])
 refine sched_step (by simp only [opT, opS, opZ]; rfl) ?_
 go_wp2_with fail
 refine (appSame_calls w3 _ (fun _ => True) r ResD.full _ _ (F2.out.hr.below KD3.out) ⟨_, _, _, rfl, Row.nil _ _ _, Row.nil _ _ _, Row.nil _ _ _⟩).mono ?_
 rintro e w4 ⟨b, rfl, hq4, hb⟩
 have HK4 := Lib.hid (HK3.out.below hb)
 have KD4 := Lib.hid (KD3.out.trans (hb.mono KD3.out.size))
 have G4 := Lib.hid (G3.out.below hb)
 have HQ4 := Lib.hid hq4
 clear hb hq4 G3
 cases b
 case false =>
  go_wp2_with fail
  refine sched_on HK4.out ?_
  repeat (first | (refine sched_take (v := ?_) (by simp only [opT, opS, opZ]; rfl) (Or.inl ⟨by rfl, fun W hW => ?_⟩) HK4.out ?_; rotate_left; (have hc := fun b o hn hb => hW.cell b o hn hb; clear hW; go_simp; with_reducible rfl); simp only [Act.put, putT, putZ, putS]) | (refine sched_take (by simp only [opT, opS, opZ]; rfl) (Or.inr ⟨by rfl, rfl⟩) HK4.out ?_; simp only [Act.put, putT, putZ, putS]))
  refine sched_step (by simp only [opT, opS, opZ]; rfl) ?_
  go_wp2_with fail
  refine sched_on HK4.out ?_
  repeat (first | (refine sched_take (v := ?_) (by simp only [opT, opS, opZ]; rfl) (Or.inl ⟨by rfl, fun W hW => ?_⟩) HK4.out ?_; rotate_left; (have hc := fun b o hn hb => hW.cell b o hn hb; clear hW; go_simp; with_reducible rfl); simp only [Act.put, putT, putZ, putS]) | (refine sched_take (by simp only [opT, opS, opZ]; rfl) (Or.inr ⟨by rfl, rfl⟩) HK4.out ?_; simp only [Act.put, putT, putZ, putS]))
  refine sched_step (by simp only [opT, opS, opZ]; rfl) ?_
  have FZ := Lib.hid (F2.out.below KD4.out)
  obtain ⟨y0, y1, y2, y3, yf⟩ := FZ.out.b8
  go_wp2_with fail
  refine sched_on (by repeat (first | (with_reducible exact HK4.out) | with_reducible refine Kept.setCell ?_ (.inr (by simp)) _)) ?_
  repeat (refine sched_take (v := ?_) (by simp only [opT, opS, opZ]; rfl) (Or.inl ⟨by rfl, fun W hW => ?_⟩) (by repeat (first | (with_reducible exact HK4.out) | with_reducible refine Kept.setCell ?_ (.inr (by simp)) _)) ?_; rotate_left; (skip; clear hW; go_simp; with_reducible rfl); simp only [Act.put, putT, putZ, putS])
  refine sched_done ?_
  clear HK HK4
  go_wp2
  refine bodyPost_ret (v := .tuple #[.agg #[.slice A5 L5 c5, .slice A6 L6 c6, .int .i64 g.nn, .int .i64 g.ne], .bool false]) (by simp [results, Tryz.results37, go_sem, y0, y1, y2, y3]; try rfl) rfl ?_
  have lz := FZ.out.hl
  have hs4 : ∀ j, j ≠ w.heap.size + 1 + 1 + 1 + 1 → (set4 w4 (w.heap.size + 1 + 1 + 1 + 1) (.slice A5 L5 c5) (.slice A6 L6 c6) (.int .i64 g.nn) (.int .i64 g.ne)).heap[j]? = w4.heap[j]? := fun j hj => set4_heap _ _ _ _ _ _ _ hj
  exact ⟨_, _, g, _, rfl, (G4.out.move (w' := set4 w4 (w.heap.size + 1 + 1 + 1 + 1) _ _ _ _) fun j hj _ => hs4 j (by (try simp only at hj); omega)).mono fun j hj _ => by (try simp only at hj ⊢); omega, (HT.out g _).2 (.inr ⟨HNQ.out, rfl, ⟨fun e => (by cases e), fun h => (by have := HQ4.out.2 h.1; cases this)⟩⟩), set4_below FZ.out.cg.K (by omega) _ _ _ _⟩
 go_wp2_with fail
 refine sched_on HK4.out ?_
 repeat (refine sched_take (v := ?_) (by simp only [opT, opS, opZ]; rfl) (Or.inl ⟨by rfl, fun W hW => ?_⟩) HK4.out ?_; rotate_left; (have hc := fun b o hn hb => hW.cell b o hn hb; clear hW; go_simp; with_reducible rfl); simp only [Act.put, putT, putZ, putS])
 refine sched_step (by simp only [opT, opS, opZ]; rfl) ?_
 go_wp2_with fail
 refine (takes_calls w4 _ c g _ _ o (F2.out.cg.hg.below KD4.out) HS.out).mono ?_
 rintro e w5 ⟨rfl, hb⟩
 have HK5 := Lib.hid (HK4.out.below hb)
 have KD5 := Lib.hid (KD4.out.trans (hb.mono KD4.out.size))
 have G5 := Lib.hid (G4.out.below hb)
 clear hb G4
 go_wp2_with fail
 refine sched_on HK5.out ?_
 repeat (refine sched_take (v := ?_) (by simp only [opT, opS, opZ]; rfl) (Or.inl ⟨by rfl, fun W hW => ?_⟩) HK5.out ?_; rotate_left; (have hc := fun b o hn hb => hW.cell b o hn hb; clear hW; go_simp; with_reducible rfl); simp only [Act.put, putT, putZ, putS])
 refine sched_step (by simp only [opT, opS, opZ]; rfl) ?_
 have FZ := Lib.hid (F2.out.below KD5.out)
 obtain ⟨y0, y1, y2, y3, yf⟩ := FZ.out.b8
 go_wp2_with fail
 refine sched_on (by repeat (first | (with_reducible exact HK5.out) | with_reducible refine Kept.setCell ?_ (.inr (by simp)) _)) ?_
 repeat (refine sched_take (v := ?_) (by simp only [opT, opS, opZ]; rfl) (Or.inl ⟨by rfl, fun W hW => ?_⟩) (by repeat (first | (with_reducible exact HK5.out) | with_reducible refine Kept.setCell ?_ (.inr (by simp)) _)) ?_; rotate_left; (skip; clear hW; go_simp; with_reducible rfl); simp only [Act.put, putT, putZ, putS])
 refine sched_done ?_
 clear HK HK5
 go_wp2
 refine bodyPost_ret (v := .tuple #[.agg #[.slice A5 L5 c5, .slice A6 L6 c6, .int .i64 g.nn, .int .i64 g.ne], .bool (takesOf c g o != 0)]) (by simp [results, Tryz.results37, go_sem, y0, y1, y2, y3]; try rfl) rfl ?_
 have lz := FZ.out.hl
 have hs4 : ∀ j, j ≠ w.heap.size + 1 + 1 + 1 + 1 → (set4 w5 (w.heap.size + 1 + 1 + 1 + 1) (.slice A5 L5 c5) (.slice A6 L6 c6) (.int .i64 g.nn) (.int .i64 g.ne)).heap[j]? = w5.heap[j]? := fun j hj => set4_heap _ _ _ _ _ _ _ hj
 exact ⟨_, _, g, _, rfl, (G5.out.move (w' := set4 w5 (w.heap.size + 1 + 1 + 1 + 1) _ _ _ _) fun j hj _ => hs4 j (by (try simp only at hj); omega)).mono fun j hj _ => by (try simp only at hj ⊢); omega, (HT.out g _).2 (.inr ⟨HNQ.out, rfl, ⟨fun e => ⟨HQ4.out.1 (by trivial), by simpa using e⟩, fun h => by simpa using h.2⟩⟩), set4_below FZ.out.cg.K (by omega) _ _ _ _⟩
set_option maxRecDepth 100000 in
set_option maxHeartbeats 16000000 in
theorem refFits_calls (w : World) (S S' : Nat → Prop) (c : CfgD) (g : GraphD) (vn ve : Value) (o : OpD) (r : ResD) (v : Value) (h : Gr w S g vn ve) (hs : Rdy c g) (hr : Res w S' r v) : Calls Tryz.prog 43 #[c.val, .agg #[vn, ve, .int .i64 g.nn, .int .i64 g.ne], o.val, v] w (FitsPost w c g o r) := by
 obtain ⟨⟨A1, c1, rfl⟩, ⟨A2, c2, rfl⟩⟩ := h.slices
 obtain ⟨a1, d1, a2, d2, a3, d3, rfl, _⟩ := hr.slices
 obtain ⟨W0, hW⟩ : ∃ W0, W0 = ((((w.alloc (.cells #[.int .i64 c.nodes, .int .i64 c.edges, .int .i64 c.props, .int .i64 c.ids, .int .i64 c.eids] 23)).alloc (.cells #[.slice A1 g.nodes.length c1, .slice A2 g.edges.length c2, .int .i64 g.nn, .int .i64 g.ne] 31)).alloc (.cells #[.int .i64 o.k, .int .i64 o.a, .int .i64 o.b, .int .i64 o.p, .int .i64 o.v] 46)).alloc (.cells #[.int .i64 r.st, .int .i64 r.id, .slice a1 r.ps.length d1, .slice a2 r.os.length d2, .slice a3 r.is.length d3] 50)).alloc (.cells #[.slice none 0 0, .slice none 0 0, .int .i64 0, .int .i64 0] 31) := ⟨_, rfl⟩
 have F0 := Lib.hid (fb_made w S S' c g _ _ o r _ _ _ h hr W0 hW)
 have HS := Lib.hid hs
 clear h hs hr
 unfold OpD.val CfgD.val
 go_enter Tryz.func43, Tryz.ntmps43
 go_wp2_with fail
 rw [← hW]
 clear hW
 refine (refDo_calls W0 _ c g _ _ o F0.out.cg.hg HS.out).mono ?_
 rintro e w1 hp
 obtain ⟨A3, L3, c3, A4, L4, c4, p1, q1, p2, q2, p3, q3, rfl, hz, hx, hb⟩ := do_slices hp
 have HT := Lib.hid (show ∀ z b, FitsD c g o r z b ↔ (((doOf c g o).2 = r ∧ z = (doOf c g o).1 ∧ b = true) ∨ (¬ (doOf c g o).2 = r ∧ z = g ∧ (b = true ↔ r = ResD.full ∧ ¬ takesOf c g o = 0))) from fun z b => Iff.rfl)
 revert HT hz hx
 generalize doOf c g o = d
 intro hz hx HT
 obtain ⟨z, x⟩ := d
 simp only at HT hz hx ⊢
 obtain ⟨Wa, hV⟩ : ∃ V, V = (w1.alloc (.cells #[.slice A3 L3 c3, .slice A4 L4 c4, .int .i64 z.nn, .int .i64 z.ne] 31)).alloc (.cells #[.int .i64 x.st, .int .i64 x.id, .slice p1 x.ps.length q1, .slice p2 x.os.length q2, .slice p3 x.is.length q3] 50) := ⟨_, rfl⟩
 have hbv : Below w1.heap.size w1 Wa := by rw [hV]; exact (by repeat (first | (with_reducible exact Below.refl _ _) | (with_reducible exact Below.refl _ _) | (with_reducible refine Below.drew ?_) | (with_reducible refine Below.alloc ?_ (by simp; try omega) _) | (with_reducible refine Below.setCell ?_ (by simp; try omega) _)))
 have sv : w1.heap.size + 1 < Wa.heap.size := by rw [hV]; simp
 have BG := Lib.hid (show Box4 Wa w1.heap.size _ _ _ _ from by rw [hV]; exact (Box4.made w1 31 (.slice A3 L3 c3) (.slice A4 L4 c4) (.int .i64 z.nn) (.int .i64 z.ne)).keep (Below.heap_alloc _ _ _ (by simp)))
 have F1 := Lib.hid (F0.out.below hb)
 have FA := Lib.hid (F1.out.below hbv)
 have GZ := Lib.hid (hz.below hbv)
 have RX := Lib.hid (hx.below hbv)
 have l0 := F0.out.hl
 have l1 := F1.out.hl
 have hbs := hb.size
 clear hp hz hx hb hbv
 obtain ⟨r0, r1, r2, r3, r4, rf⟩ := F1.out.br
 have g3 : w.heap.size + 1 + 1 + 1 < w1.heap.size := by omega
 have g2 : w.heap.size + 1 + 1 < w1.heap.size := by omega
 have g1 : w.heap.size + 1 < w1.heap.size := by omega
 have g0 : w.heap.size < w1.heap.size := by omega
 go_wp2_with fail
 rw [← hV]
 clear hV r0 r1 r2 r3 r4 rf g3 g2 g1 g0
 refine (refSameR_calls Wa _ _ x r _ _ RX.out FA.out.hr).mono ?_
 rintro e w2 ⟨b, rfl, hq, hb⟩
 have hbs2 := hb.size
 have F2 := Lib.hid (FA.out.below hb)
 have GZ2 := Lib.hid (GZ.out.below hb)
 have BG2 := Lib.hid (BG.out.keep (hb.block _ (by omega)))
 have HQ := Lib.hid hq
 have l2 := F2.out.hl
 clear hb hq F1 FA GZ BG RX
 cases b
 case true =>
  obtain ⟨x0, x1, x2, x3, xf⟩ := BG2.out
  obtain ⟨y0, y1, y2, y3, yf⟩ := F2.out.b8
  have n1 : ¬ w1.heap.size = w.heap.size + 1 + 1 + 1 + 1 := by omega
  have n2 : ¬ w.heap.size + 1 + 1 + 1 + 1 = w1.heap.size := by omega
  go_wp2
  refine bodyPost_ret (v := .tuple #[.agg #[.slice A3 L3 c3, .slice A4 L4 c4, .int .i64 z.nn, .int .i64 z.ne], .bool true]) (by simp [results, Tryz.results43, go_sem, y0, y1, y2, y3]; try rfl) rfl ?_
  have hs4 : ∀ j, j ≠ w.heap.size + 1 + 1 + 1 + 1 → (set4 w2 (w.heap.size + 1 + 1 + 1 + 1) (.slice A3 L3 c3) (.slice A4 L4 c4) (.int .i64 z.nn) (.int .i64 z.ne)).heap[j]? = w2.heap[j]? := fun j hj => set4_heap _ _ _ _ _ _ _ hj
  exact ⟨_, _, z, true, rfl, (GZ2.out.move (w' := set4 w2 (w.heap.size + 1 + 1 + 1 + 1) _ _ _ _) fun j hj _ => hs4 j (by (try simp only at hj); omega)).mono fun j hj _ => by (try simp only at hj ⊢); omega, (HT.out z true).2 (.inl ⟨HQ.out.1 (by trivial), rfl, rfl⟩), set4_below F2.out.cg.K (by omega) _ _ _ _⟩
 clear BG2 GZ2
 have HNQ := Lib.hid (show ¬ x = r from fun e => by have := HQ.out.2 e; cases this)
 obtain ⟨x0, x1, x2, x3, xf⟩ := F2.out.cg.bg
 obtain ⟨d0, d1', d2', d3', d4, df⟩ := F2.out.cg.cf
 obtain ⟨o0, o1, o2, o3, o4, of⟩ := F2.out.cg.op
 obtain ⟨r0, r1, r2, r3, r4, rf⟩ := F2.out.br
 have g0 : w.heap.size < w2.heap.size := by omega
 have g1 : w.heap.size + 1 < w2.heap.size := by omega
 have g2 : w.heap.size + 1 + 1 < w2.heap.size := by omega
 have g3 : w.heap.size + 1 + 1 + 1 < w2.heap.size := by omega
 have n1 : ¬ w.heap.size = w.heap.size + 1 + 1 + 1 + 1 := by omega
 have n2 : ¬ w.heap.size + 1 = w.heap.size + 1 + 1 + 1 + 1 := by omega
 have n3 : ¬ w.heap.size + 1 + 1 = w.heap.size + 1 + 1 + 1 + 1 := by omega
 have n4 : ¬ w.heap.size + 1 + 1 + 1 = w.heap.size + 1 + 1 + 1 + 1 := by omega
 have n5 : ¬ w.heap.size + 1 + 1 = w.heap.size := by omega
 have n6 : ¬ w.heap.size + 1 + 1 + 1 = w.heap.size := by omega
 have n7 : ¬ w.heap.size + 1 = w.heap.size := by omega
 have n8 : ¬ w.heap.size = w.heap.size + 1 := by omega
 have n9 : ¬ w.heap.size = w.heap.size + 1 + 1 := by omega
 have n10 : ¬ w.heap.size = w.heap.size + 1 + 1 + 1 := by omega
 go_wp2_with fail
 refine wp_region_schedK (fun k => k ≠ w.heap.size + 1 + 1 + 1 + 1) [(0, true), (2, true), (3, true), (1, false), (4, false), (5, true), (6, true), (7, true), (8, true), (9, false), (10, true), (11, true), (12, false), (13, true)] (by kernel_rfl) (by kernel_rfl) (fun hS => ?_)
 have HK := Lib.hid hS
 clear hS
 have KD := Lib.hid (Below.refl w2.heap.size w2).drew
 revert HK KD
 generalize w2.drew = Wd
 intro HK KD
 repeat (refine sched_take (v := ?_) (by simp only [opT, opS, opZ]; rfl) (Or.inl ⟨by rfl, fun W hW => ?_⟩) HK.out ?_; rotate_left; (have hc := fun b o hn hb => hW.cell b o hn hb; clear hW; go_simp; with_reducible rfl); simp only [Act.put, putT, putZ, putS])
 refine sched_step (by simp only [opT, opS, opZ]; rfl) ?_
 go_wp2_with fail
 refine (copy_calls Wd _ g _ _ (F2.out.cg.hg.below KD.out) HS.out.small).mono ?_
 rintro e w3 ⟨zn, ze, rfl, hgg, hb⟩
 obtain ⟨⟨A5, L5, c5, rfl⟩, A6, L6, c6, rfl⟩ := hgg.sl3
 have HK3 := Lib.hid (HK.out.below hb)
 have KD3 := Lib.hid (KD.out.trans (hb.mono KD.out.size))
 have G3 := Lib.hid ((hgg.mono (S' := fun k => w2.heap.size ≤ k) fun k hk _ => Nat.le_trans KD.out.size hk))
 clear hb hgg 
 go_wp2_with fail
 refine sched_on HK3.out ?_
 repeat (refine sched_take (v := ?_) (by simp only [opT, opS, opZ]; rfl) (Or.inl ⟨by rfl, fun W hW => ?_⟩) HK3.out ?_; rotate_left; (have hc := fun b o hn hb => hW.cell b o hn hb; clear hW; go_simp; with_reducible rfl); simp only [Act.put, putT, putZ, putS])
 refine sched_step (by simp only [opT, opS, opZ]; rfl) ?_
 go_wp2_with fail
 refine (refSameR_calls w3 _ (fun _ => True) r ResD.full _ _ (F2.out.hr.below KD3.out) ⟨_, _, _, rfl, Row.nil _ _ _, Row.nil _ _ _, Row.nil _ _ _⟩).mono ?_
 rintro e w4 ⟨b, rfl, hq4, hb⟩
 have HK4 := Lib.hid (HK3.out.below hb)
 have KD4 := Lib.hid (KD3.out.trans (hb.mono KD3.out.size))
 have G4 := Lib.hid (G3.out.below hb)
 have HQ4 := Lib.hid hq4
 clear hb hq4 G3
 cases b
 case false =>
  go_wp2_with fail
  refine sched_on HK4.out ?_
  repeat (first | (refine sched_take (v := ?_) (by simp only [opT, opS, opZ]; rfl) (Or.inl ⟨by rfl, fun W hW => ?_⟩) HK4.out ?_; rotate_left; (have hc := fun b o hn hb => hW.cell b o hn hb; clear hW; go_simp; with_reducible rfl); simp only [Act.put, putT, putZ, putS]) | (refine sched_take (by simp only [opT, opS, opZ]; rfl) (Or.inr ⟨by rfl, rfl⟩) HK4.out ?_; simp only [Act.put, putT, putZ, putS]))
  refine sched_step (by simp only [opT, opS, opZ]; rfl) ?_
  go_wp2_with fail
  refine sched_on HK4.out ?_
  repeat (first | (refine sched_take (v := ?_) (by simp only [opT, opS, opZ]; rfl) (Or.inl ⟨by rfl, fun W hW => ?_⟩) HK4.out ?_; rotate_left; (have hc := fun b o hn hb => hW.cell b o hn hb; clear hW; go_simp; with_reducible rfl); simp only [Act.put, putT, putZ, putS]) | (refine sched_take (by simp only [opT, opS, opZ]; rfl) (Or.inr ⟨by rfl, rfl⟩) HK4.out ?_; simp only [Act.put, putT, putZ, putS]))
  refine sched_step (by simp only [opT, opS, opZ]; rfl) ?_
  have FZ := Lib.hid (F2.out.below KD4.out)
  obtain ⟨y0, y1, y2, y3, yf⟩ := FZ.out.b8
  go_wp2_with fail
  refine sched_on (by repeat (first | (with_reducible exact HK4.out) | with_reducible refine Kept.setCell ?_ (.inr (by simp)) _)) ?_
  repeat (refine sched_take (v := ?_) (by simp only [opT, opS, opZ]; rfl) (Or.inl ⟨by rfl, fun W hW => ?_⟩) (by repeat (first | (with_reducible exact HK4.out) | with_reducible refine Kept.setCell ?_ (.inr (by simp)) _)) ?_; rotate_left; (skip; clear hW; go_simp; with_reducible rfl); simp only [Act.put, putT, putZ, putS])
  refine sched_done ?_
  clear HK HK4
  go_wp2
  refine bodyPost_ret (v := .tuple #[.agg #[.slice A5 L5 c5, .slice A6 L6 c6, .int .i64 g.nn, .int .i64 g.ne], .bool false]) (by simp [results, Tryz.results43, go_sem, y0, y1, y2, y3]; try rfl) rfl ?_
  have lz := FZ.out.hl
  have hs4 : ∀ j, j ≠ w.heap.size + 1 + 1 + 1 + 1 → (set4 w4 (w.heap.size + 1 + 1 + 1 + 1) (.slice A5 L5 c5) (.slice A6 L6 c6) (.int .i64 g.nn) (.int .i64 g.ne)).heap[j]? = w4.heap[j]? := fun j hj => set4_heap _ _ _ _ _ _ _ hj
  exact ⟨_, _, g, _, rfl, (G4.out.move (w' := set4 w4 (w.heap.size + 1 + 1 + 1 + 1) _ _ _ _) fun j hj _ => hs4 j (by (try simp only at hj); omega)).mono fun j hj _ => by (try simp only at hj ⊢); omega, (HT.out g _).2 (.inr ⟨HNQ.out, rfl, ⟨fun e => (by cases e), fun h => (by have := HQ4.out.2 h.1; cases this)⟩⟩), set4_below FZ.out.cg.K (by omega) _ _ _ _⟩
 go_wp2_with fail
 refine sched_on HK4.out ?_
 repeat (refine sched_take (v := ?_) (by simp only [opT, opS, opZ]; rfl) (Or.inl ⟨by rfl, fun W hW => ?_⟩) HK4.out ?_; rotate_left; (have hc := fun b o hn hb => hW.cell b o hn hb; clear hW; go_simp; with_reducible rfl); simp only [Act.put, putT, putZ, putS])
 refine sched_step (by simp only [opT, opS, opZ]; rfl) ?_
 go_wp2_with fail
 refine (refTakes_calls w4 _ c g _ _ o (F2.out.cg.hg.below KD4.out) HS.out).mono ?_
 rintro e w5 ⟨rfl, hb⟩
 have HK5 := Lib.hid (HK4.out.below hb)
 have KD5 := Lib.hid (KD4.out.trans (hb.mono KD4.out.size))
 have G5 := Lib.hid (G4.out.below hb)
 clear hb G4
 go_wp2_with fail
 refine sched_on HK5.out ?_
 repeat (refine sched_take (v := ?_) (by simp only [opT, opS, opZ]; rfl) (Or.inl ⟨by rfl, fun W hW => ?_⟩) HK5.out ?_; rotate_left; (have hc := fun b o hn hb => hW.cell b o hn hb; clear hW; go_simp; with_reducible rfl); simp only [Act.put, putT, putZ, putS])
 refine sched_step (by simp only [opT, opS, opZ]; rfl) ?_
 have FZ := Lib.hid (F2.out.below KD5.out)
 obtain ⟨y0, y1, y2, y3, yf⟩ := FZ.out.b8
 go_wp2_with fail
 refine sched_on (by repeat (first | (with_reducible exact HK5.out) | with_reducible refine Kept.setCell ?_ (.inr (by simp)) _)) ?_
 repeat (refine sched_take (v := ?_) (by simp only [opT, opS, opZ]; rfl) (Or.inl ⟨by rfl, fun W hW => ?_⟩) (by repeat (first | (with_reducible exact HK5.out) | with_reducible refine Kept.setCell ?_ (.inr (by simp)) _)) ?_; rotate_left; (skip; clear hW; go_simp; with_reducible rfl); simp only [Act.put, putT, putZ, putS])
 refine sched_done ?_
 clear HK HK5
 go_wp2
 refine bodyPost_ret (v := .tuple #[.agg #[.slice A5 L5 c5, .slice A6 L6 c6, .int .i64 g.nn, .int .i64 g.ne], .bool (takesOf c g o != 0)]) (by simp [results, Tryz.results43, go_sem, y0, y1, y2, y3]; try rfl) rfl ?_
 have lz := FZ.out.hl
 have hs4 : ∀ j, j ≠ w.heap.size + 1 + 1 + 1 + 1 → (set4 w5 (w.heap.size + 1 + 1 + 1 + 1) (.slice A5 L5 c5) (.slice A6 L6 c6) (.int .i64 g.nn) (.int .i64 g.ne)).heap[j]? = w5.heap[j]? := fun j hj => set4_heap _ _ _ _ _ _ _ hj
 exact ⟨_, _, g, _, rfl, (G5.out.move (w' := set4 w5 (w.heap.size + 1 + 1 + 1 + 1) _ _ _ _) fun j hj _ => hs4 j (by (try simp only at hj); omega)).mono fun j hj _ => by (try simp only at hj ⊢); omega, (HT.out g _).2 (.inr ⟨HNQ.out, rfl, ⟨fun e => ⟨HQ4.out.1 (by trivial), by simpa using e⟩, fun h => by simpa using h.2⟩⟩), set4_below FZ.out.cg.K (by omega) _ _ _ _⟩

end Go.Proofs.YtpehmmdbjakkpaaGreat
