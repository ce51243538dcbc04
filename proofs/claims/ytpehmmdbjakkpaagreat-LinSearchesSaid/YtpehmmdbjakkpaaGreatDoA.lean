/- apply.Do. -/
import Derived.Test.YtpehmmdbjakkpaaGreatPickA
namespace Go.Proofs.YtpehmmdbjakkpaaGreat
open Go.RowKit Go.Shelf
set_option linter.unusedSimpArgs false
set_option linter.unusedVariables false
theorem heap5' {α : Type} (H : Array α) (a b c d e : α) : (((((H.push a).push b).push c).push d).push e)[H.size]? = some a ∧ (((((H.push a).push b).push c).push d).push e)[H.size + 1]? = some b ∧ (((((H.push a).push b).push c).push d).push e)[H.size + 1 + 1]? = some c ∧ (((((H.push a).push b).push c).push d).push e)[H.size + 1 + 1 + 1]? = some d ∧ (((((H.push a).push b).push c).push d).push e)[H.size + 1 + 1 + 1 + 1]? = some e := by
 have hl : ((((H.push a).push b).push c).push d).push e = H ++ #[a, b, c, d, e] := by
  apply Array.ext'
  simp
 rw [hl]
 refine ⟨?_, ?_, ?_, ?_, ?_⟩
 ·
  rw [Array.getElem?_append_right (by omega), show H.size - H.size = 0 by omega]; rfl
 ·
  rw [Array.getElem?_append_right (by omega), show H.size + 1 - H.size = 1 by omega]; rfl
 ·
  rw [Array.getElem?_append_right (by omega), show H.size + 1 + 1 - H.size = 2 by omega]; rfl
 ·
  rw [Array.getElem?_append_right (by omega), show H.size + 1 + 1 + 1 - H.size = 3 by omega]; rfl
 ·
  rw [Array.getElem?_append_right (by omega), show H.size + 1 + 1 + 1 + 1 - H.size = 4 by omega]; rfl
theorem heap5 (w : World) (a b c d e : Obj) : (((((w.alloc a).alloc b).alloc c).alloc d).alloc e).heap[w.heap.size]? = some a ∧ (((((w.alloc a).alloc b).alloc c).alloc d).alloc e).heap[w.heap.size + 1]? = some b ∧ (((((w.alloc a).alloc b).alloc c).alloc d).alloc e).heap[w.heap.size + 1 + 1]? = some c ∧ (((((w.alloc a).alloc b).alloc c).alloc d).alloc e).heap[w.heap.size + 1 + 1 + 1]? = some d ∧ (((((w.alloc a).alloc b).alloc c).alloc d).alloc e).heap[w.heap.size + 1 + 1 + 1 + 1]? = some e := heap5' w.heap a b c d e
theorem cap_made (W : World) (S : Nat → Prop) (c : CfgD) (g : GraphD) (vn ve : Value) (o : OpD) (hg : Gr W S g vn ve) (w1 : World) (hw : w1 = ((((((W.alloc (.cells #[.int .i64 c.nodes, .int .i64 c.edges, .int .i64 c.props, .int .i64 c.ids, .int .i64 c.eids] 23)).alloc (.cells #[vn, ve, .int .i64 g.nn, .int .i64 g.ne] 31)).alloc (.cells #[.int .i64 o.k, .int .i64 o.a, .int .i64 o.b, .int .i64 o.p, .int .i64 o.v] 46)).alloc (.cells #[.func (.func 84) #[] #[]] 137)).alloc (.cells #[.func (.func 85) #[] #[]] 138)).alloc (.map (chgMap W.heap.size) 7))) :
  Cap W.heap.size S c g vn ve o w1 ∧ w1.heap[W.heap.size + 5]? = some (.map (chgMap W.heap.size) 7) ∧ Below W.heap.size W w1 ∧ w1.heap.size = W.heap.size + 6 := by
 have hb : Below W.heap.size W w1 := by rw [hw]; exact (by repeat (first | (with_reducible exact Below.refl _ _) | (with_reducible exact Below.refl _ _) | (with_reducible refine Below.drew ?_) | (with_reducible refine Below.alloc ?_ (by simp; try omega) _) | (with_reducible refine Below.setCell ?_ (by simp; try omega) _)))
 have hs : w1.heap.size = W.heap.size + 6 := by rw [hw]; simp
 obtain ⟨h1, h2, h3, h4, h5⟩ := heap5 W (.cells #[.int .i64 c.nodes, .int .i64 c.edges, .int .i64 c.props, .int .i64 c.ids, .int .i64 c.eids] 23) (.cells #[vn, ve, .int .i64 g.nn, .int .i64 g.ne] 31) (.cells #[.int .i64 o.k, .int .i64 o.a, .int .i64 o.b, .int .i64 o.p, .int .i64 o.v] 46) (.cells #[.func (.func 84) #[] #[]] 137) (.cells #[.func (.func 85) #[] #[]] 138)
 generalize hV : ((((W.alloc (.cells #[.int .i64 c.nodes, .int .i64 c.edges, .int .i64 c.props, .int .i64 c.ids, .int .i64 c.eids] 23)).alloc (.cells #[vn, ve, .int .i64 g.nn, .int .i64 g.ne] 31)).alloc (.cells #[.int .i64 o.k, .int .i64 o.a, .int .i64 o.b, .int .i64 o.p, .int .i64 o.v] 46)).alloc (.cells #[.func (.func 84) #[] #[]] 137)).alloc (.cells #[.func (.func 85) #[] #[]] 138) = V at hw h1 h2 h3 h4 h5
 have sV : V.heap.size = W.heap.size + 5 := by rw [← hV]; simp
 have hk : ∀ k, k < V.heap.size → w1.heap[k]? = V.heap[k]? := fun k hk => by rw [hw]; exact Below.heap_alloc _ _ _ hk
 have hm : w1.heap[W.heap.size + 5]? = some (.map (chgMap W.heap.size) 7) := by rw [hw, ← sV]; exact (MapKept.heap_alloc V _).1
 have h2' := (hk _ (by omega)).trans h2
 refine ⟨⟨(hk _ (by omega)).trans h1, ⟨by simp [World.cell?, h2'], by simp [World.cell?, h2'], by simp [World.cell?, h2'], by simp [World.cell?, h2'], fun i => by simp [World.frozen?, h2']⟩, (hk _ (by omega)).trans h3, (hk _ (by omega)).trans h4, (hk _ (by omega)).trans h5, by omega, hg.below hb⟩, hm, hb, hs⟩
def DoPost (w : World) (r : GraphD × ResD) (e : Ending) (w' : World) : Prop := ∃ vn ve v, e = .returned (.tuple #[.agg #[vn, ve, .int .i64 r.1.nn, .int .i64 r.1.ne], v]) ∧ Gr w' (fun k => w.heap.size ≤ k) r.1 vn ve ∧ Res w' (fun k => w.heap.size ≤ k) r.2 v ∧ Below w.heap.size w w'
/-- The five boxes of apply.Do. -/
structure DoB (w : World) (S : Nat → Prop) (g : GraphD) (vn ve : Value) (o : OpD) (W : World) : Prop where
 K : Below w.heap.size w W
 bg : Box4 W (w.heap.size + 1) vn ve (.int .i64 g.nn) (.int .i64 g.ne)
 op : W.heap[w.heap.size + 1 + 1]? = some (.cells #[.int .i64 o.k, .int .i64 o.a, .int .i64 o.b, .int .i64 o.p, .int .i64 o.v] 46 (0, 0))
 bo : Box4 W (w.heap.size + 1 + 1 + 1) (.slice none 0 0) (.slice none 0 0) (.int .i64 0) (.int .i64 0)
 br : W.heap[w.heap.size + 1 + 1 + 1 + 1]? = some (.cells #[.int .i64 0, .int .i64 0, .slice none 0 0, .slice none 0 0, .slice none 0 0] 50 (0, 0))
 hl : w.heap.size + 5 ≤ W.heap.size
 hg : Gr W S g vn ve
theorem DoB.below {w : World} {S : Nat → Prop} {g : GraphD} {vn ve : Value} {o : OpD} {W W' : World} (h : DoB w S g vn ve o W) (hb : Below W.heap.size W W') : DoB w S g vn ve o W' := by
 have h1 := h.hl
 exact ⟨h.K.trans (hb.mono h.K.size), h.bg.keep (hb.block _ (by omega)), (hb.block _ (by omega)).trans h.op, h.bo.keep (hb.block _ (by omega)), (hb.block _ (by omega)).trans h.br, Nat.le_trans h1 hb.size, h.hg.below hb⟩
theorem DoB.cells {w : World} {S : Nat → Prop} {g : GraphD} {vn ve : Value} {o : OpD} {W : World} (h : DoB w S g vn ve o W) : (W.cell? ⟨w.heap.size + 1 + 1, 0, none⟩ = some (.int .i64 o.k) ∧ W.cell? ⟨w.heap.size + 1 + 1, 1, none⟩ = some (.int .i64 o.a) ∧ W.cell? ⟨w.heap.size + 1 + 1, 2, none⟩ = some (.int .i64 o.b) ∧ W.cell? ⟨w.heap.size + 1 + 1, 3, none⟩ = some (.int .i64 o.p) ∧ W.cell? ⟨w.heap.size + 1 + 1, 4, none⟩ = some (.int .i64 o.v)) ∧
  (W.cell? ⟨w.heap.size + 1 + 1 + 1 + 1, 0, none⟩ = some (.int .i64 0) ∧ W.cell? ⟨w.heap.size + 1 + 1 + 1 + 1, 1, none⟩ = some (.int .i64 0) ∧ W.cell? ⟨w.heap.size + 1 + 1 + 1 + 1, 2, none⟩ = some (.slice none 0 0) ∧ W.cell? ⟨w.heap.size + 1 + 1 + 1 + 1, 3, none⟩ = some (.slice none 0 0) ∧ W.cell? ⟨w.heap.size + 1 + 1 + 1 + 1, 4, none⟩ = some (.slice none 0 0)) ∧ ∀ i, W.frozen? ⟨w.heap.size + 1 + 1 + 1 + 1, i, none⟩ = false := by
 have h1 := h.op
 have h2 := h.br
 simp [World.cell?, World.frozen?, h1, h2]
set_option maxRecDepth 100000 in
set_option maxHeartbeats 4000000 in
theorem do_calls (w : World) (S : Nat → Prop) (c : CfgD) (g : GraphD) (vn ve : Value) (o : OpD) (h : Gr w S g vn ve) (hs : Rdy c g) : Calls Tryz.prog 36 #[c.val, .agg #[vn, ve, .int .i64 g.nn, .int .i64 g.ne], o.val] w (DoPost w (doOf c g o)) := by
 obtain ⟨⟨A1, c1, rfl⟩, ⟨A2, c2, rfl⟩⟩ := h.slices
 have HG := Lib.hid h
 have HS := Lib.hid hs
 clear h hs
 unfold OpD.val CfgD.val
 obtain ⟨W0, hW⟩ : ∃ W0, W0 = ((((w.alloc (.cells #[.int .i64 c.nodes, .int .i64 c.edges, .int .i64 c.props, .int .i64 c.ids, .int .i64 c.eids] 23)).alloc (.cells #[.slice A1 g.nodes.length c1, .slice A2 g.edges.length c2, .int .i64 g.nn, .int .i64 g.ne] 31)).alloc (.cells #[.int .i64 o.k, .int .i64 o.a, .int .i64 o.b, .int .i64 o.p, .int .i64 o.v] 46)).alloc (.cells #[.slice none 0 0, .slice none 0 0, .int .i64 0, .int .i64 0] 31)).alloc (.cells #[.int .i64 0, .int .i64 0, .slice none 0 0, .slice none 0 0, .slice none 0 0] 50) := ⟨_, rfl⟩
 have K0 := Lib.hid (show Below w.heap.size w W0 by rw [hW]; exact (by repeat (first | (with_reducible exact Below.refl _ _) | (with_reducible exact Below.refl _ _) | (with_reducible refine Below.drew ?_) | (with_reducible refine Below.alloc ?_ (by simp; try omega) _) | (with_reducible refine Below.setCell ?_ (by simp; try omega) _))))
 have s0 : W0.heap.size = w.heap.size + 5 := by rw [hW]; simp
 have G0 := Lib.hid (show _ ∧ _ ∧ _ ∧ _ ∧ _ from by have := heap5 w (.cells #[.int .i64 c.nodes, .int .i64 c.edges, .int .i64 c.props, .int .i64 c.ids, .int .i64 c.eids] 23) (.cells #[.slice A1 g.nodes.length c1, .slice A2 g.edges.length c2, .int .i64 g.nn, .int .i64 g.ne] 31) (.cells #[.int .i64 o.k, .int .i64 o.a, .int .i64 o.b, .int .i64 o.p, .int .i64 o.v] 46) (.cells #[.slice none 0 0, .slice none 0 0, .int .i64 0, .int .i64 0] 31) (.cells #[.int .i64 0, .int .i64 0, .slice none 0 0, .slice none 0 0, .slice none 0 0] 50); rw [← hW] at this; exact this)
 have H0 := Lib.hid (HG.out.below K0.out)
 go_enter Tryz.func36, Tryz.ntmps36
 go_wp2
 rw [← hW]
 refine wp_region_schedK (fun k => True) [(0, true), (1, true), (2, true), (4, true), (5, true), (3, false), (6, false), (7, true), (8, true), (9, true), (10, true), (11, true)] (by kernel_rfl) (by kernel_rfl) (fun hS => ?_)
 have HK := Lib.hid hS
 clear hS hW
 have q0 : w.heap.size < W0.heap.size := by omega
 have q1 : w.heap.size + 1 < W0.heap.size := by omega
 have q2 : w.heap.size + 1 + 1 < W0.heap.size := by omega
 have S0 := Lib.hid s0
 clear s0
 obtain ⟨e0, e1, e2, e3, e4⟩ := G0.out
 have d : (W0.cell? ⟨w.heap.size, 0, none⟩ = some (.int .i64 c.nodes) ∧ W0.cell? ⟨w.heap.size, 1, none⟩ = some (.int .i64 c.edges) ∧ W0.cell? ⟨w.heap.size, 2, none⟩ = some (.int .i64 c.props) ∧ W0.cell? ⟨w.heap.size, 3, none⟩ = some (.int .i64 c.ids) ∧ W0.cell? ⟨w.heap.size, 4, none⟩ = some (.int .i64 c.eids)) ∧
  (W0.cell? ⟨w.heap.size + 1 + 1, 0, none⟩ = some (.int .i64 o.k) ∧ W0.cell? ⟨w.heap.size + 1 + 1, 1, none⟩ = some (.int .i64 o.a) ∧ W0.cell? ⟨w.heap.size + 1 + 1, 2, none⟩ = some (.int .i64 o.b) ∧ W0.cell? ⟨w.heap.size + 1 + 1, 3, none⟩ = some (.int .i64 o.p) ∧ W0.cell? ⟨w.heap.size + 1 + 1, 4, none⟩ = some (.int .i64 o.v)) ∧
  (W0.cell? ⟨w.heap.size + 1, 0, none⟩ = some (.slice A1 g.nodes.length c1) ∧ W0.cell? ⟨w.heap.size + 1, 1, none⟩ = some (.slice A2 g.edges.length c2) ∧ W0.cell? ⟨w.heap.size + 1, 2, none⟩ = some (.int .i64 g.nn) ∧ W0.cell? ⟨w.heap.size + 1, 3, none⟩ = some (.int .i64 g.ne)) := by
  simp [World.cell?, e0, e1, e2]
 have DB := Lib.hid (show DoB w S g (.slice A1 g.nodes.length c1) (.slice A2 g.edges.length c2) o W0 from ⟨K0.out, ⟨d.2.2.1, d.2.2.2.1, d.2.2.2.2.1, d.2.2.2.2.2, fun i => by simp [World.frozen?, e1]⟩, e2, ⟨by simp [World.cell?, e3], by simp [World.cell?, e3], by simp [World.cell?, e3], by simp [World.cell?, e3], fun i => by simp [World.frozen?, e3]⟩, e4, by have := S0.out; omega, H0.out⟩)
 clear e0 e1 e2 e3 e4
 obtain ⟨⟨d0, d1, d2, d3, d4⟩, ⟨o0, o1, o2, o3, o4⟩, x0, x1, x2, x3⟩ := d
 repeat (refine sched_take (v := ?_) (by simp only [opT, opS, opZ]; rfl) (Or.inl ⟨by rfl, fun W hW => ?_⟩) HK.out ?_; rotate_left; (have hc := fun b o hb => hW.cell b o trivial hb; clear hW; go_simp; with_reducible rfl); simp only [Act.put, putT, putZ, putS])
 refine sched_step (by simp only [opT, opS, opZ]; rfl) ?_
 go_wp2_with fail
 refine (changes_calls W0.drew c g _ _ o).mono ?_
 rintro e w1 ⟨rfl, hw1⟩
 obtain ⟨hcap, hmap, hb1, s1⟩ := cap_made W0.drew S c g _ _ o (H0.out.below (Below.refl _ _).drew) w1 hw1
 clear hw1
 have HC := Lib.hid hcap
 have HM := Lib.hid hmap
 simp only [World.size_drew] at s1 hb1
 have K1 := Lib.hid (K0.out.drew.trans (hb1.mono (by simpa using K0.out.size)))
 clear hcap hmap
 have HK1 := Lib.hid (HK.out.below hb1)
 cases hch : chg c g o with
 | none =>
  have hL := pick_none hch HM.out
  simp only [World.size_drew] at hL
  have HR := Lib.hid (show doOf c g o = (g, lookOf g o) by simp [doOf, hch])
  clear d0 d1 d2 d3 d4 o0 o1 o2 o3 o4 x0 x1 x2 x3 hch
  go_wp2_with fail
  refine sched_on HK1.out ?_
  refine sched_step (by simp only [opT, opS, opZ]; rfl) ?_
  go_wp2_with fail
  refine sched_on HK1.out ?_
  repeat (refine sched_take (v := ?_) (by simp only [opT, opS, opZ]; rfl) (Or.inl ⟨by rfl, fun W hW => ?_⟩) HK1.out ?_; rotate_left; (skip; clear hW; go_simp; with_reducible rfl); simp only [Act.put, putT, putZ, putS])
  refine sched_done ?_
  clear hL
  go_wp2_with fail
  have D1 := Lib.hid (DB.out.below ((Below.refl W0.heap.size W0).drew.trans hb1))
  clear HK HK1 DB HC HM
  have bl := D1.out.hl
  have g1 : w.heap.size + 1 < w1.heap.size := by omega
  have g2 : w.heap.size + 1 + 1 < w1.heap.size := by omega
  obtain ⟨x0, x1, x2, x3, xf⟩ := D1.out.bg
  obtain ⟨⟨o0, o1, o2, o3, o4⟩, _, _⟩ := D1.out.cells
  refine wp_region_schedK (fun k => k ≠ w.heap.size + 1 + 1 + 1 ∧ k ≠ w.heap.size + 1 + 1 + 1 + 1) [(0, true), (2, true), (3, true), (1, false), (4, false), (5, false), (6, false)] (by kernel_rfl) (by kernel_rfl) (fun hS => ?_)
  have HK := Lib.hid hS
  clear hS
  have SH := Lib.hid s1
  have SG := Lib.hid S0.out
  clear s1
  repeat (refine sched_take (v := ?_) (by simp only [opT, opS, opZ]; rfl) (Or.inl ⟨by rfl, fun W hW => ?_⟩) HK.out ?_; rotate_left; (have hc := fun b o hn hm hb => hW.cell b o ⟨hn, hm⟩ hb; clear hW; go_simp; with_reducible rfl); simp only [Act.put, putT, putZ, putS])
  refine sched_step (by simp only [opT, opS, opZ]; rfl) ?_
  go_wp2_with fail
  have D2 := Lib.hid (D1.out.below (Below.refl w1.heap.size w1).drew)
  refine (ownA_calls _ _ g _ _ D2.out.hg HS.out.small).mono ?_
  rintro e w2 ⟨zn, ze, nvs, rfl, hog, hb⟩
  have s2 := hb.size
  have HK2 := Lib.hid (HK.out.below hb)
  have D3 := Lib.hid (D2.out.below hb)
  have HZ := Lib.hid hog.gr
  obtain ⟨⟨A3, L3, c3, rfl⟩, A4, L4, c4, rfl⟩ := hog.gr.sl3
  clear hb hog D1 x0 x1 x2 x3 xf o0 o1 o2 o3 o4
  simp only [World.size_drew] at s2
  go_wp2_with fail
  refine sched_on HK2.out ?_
  repeat (refine sched_take (v := ?_) (by simp only [opT, opS, opZ]; rfl) (Or.inl ⟨by rfl, fun W hW => ?_⟩) HK2.out ?_; rotate_left; (skip; clear hW; go_simp; with_reducible rfl); simp only [Act.put, putT, putZ, putS])
  refine sched_step (by simp only [opT, opS, opZ]; rfl) ?_
  go_wp2_with fail
  refine (look_calls w2 _ g _ _ o D3.out.hg HS.out.small).mono ?_
  generalize hlk : lookOf g o = rs
  have HLK := Lib.hid hlk
  clear hlk
  obtain ⟨st, id, ps, os, is⟩ := rs
  rintro e w3 ⟨v, rfl, ⟨vp, vo, vi, rfl, hp, ho, hi⟩, hb⟩
  obtain ⟨B1, d1, rfl⟩ := hp.slice
  obtain ⟨B2, d2, rfl⟩ := ho.slice
  obtain ⟨B3, d3, rfl⟩ := hi.slice
  have s3 := hb.size
  have HK3 := Lib.hid (HK2.out.below hb)
  have D4 := Lib.hid (D3.out.below hb)
  have HZ := Lib.hid (HZ.out.below hb)
  have HP := Lib.hid hp
  have HO := Lib.hid ho
  have HI := Lib.hid hi
  clear hb hp ho hi D2 D3
  obtain ⟨y0, y1, y2, y3, yf⟩ := D4.out.bo
  obtain ⟨_, ⟨r0, r1, r2, r3, r4⟩, rf⟩ := D4.out.cells
  go_wp2_with fail
  refine sched_on HK3.out ?_
  refine sched_step (by simp only [opT, opS, opZ]; rfl) ?_
  go_wp2_with fail
  refine sched_on (by repeat (first | (with_reducible exact HK3.out) | with_reducible refine Kept.setCell ?_ (.inr (by simp)) _)) ?_
  refine sched_step (by simp only [opT, opS, opZ]; rfl) ?_
  go_wp2_with fail
  refine sched_on (by repeat (first | (with_reducible exact HK3.out) | with_reducible refine Kept.setCell ?_ (.inr (by simp)) _)) ?_
  refine sched_done ?_
  clear HK HK2 HK3
  go_wp2
  refine bodyPost_ret (v := .tuple #[.agg #[.slice A3 L3 c3, .slice A4 L4 c4, .int .i64 g.nn, .int .i64 g.ne], .agg #[.int .i64 st, .int .i64 id, .slice B1 ps.length d1, .slice B2 os.length d2, .slice B3 is.length d3]]) (by simp [results, Tryz.results36, go_sem, y0, y1, y2, y3, r0, r1, r2, r3, r4]; try rfl) rfl ?_
  rw [HR.out, HLK.out]
  refine ⟨_, _, _, rfl, Gr.mono (S := fun k => w1.drew.heap.size ≤ k) (HZ.out.move (w' := _) ?_) (fun k hk _ => ?_), ⟨_, _, _, rfl, (HP.out.move (w' := _) ?_).mono (fun k hk _ => ?_), (HO.out.move (w' := _) ?_).mono (fun k hk _ => ?_), (HI.out.move (w' := _) ?_).mono (fun k hk _ => ?_)⟩, ?_⟩
  ·
   intro k hk hl
   have h1 := D4.out.hl
   have h2 := SH.out
   have h3 := SG.out
   try simp only [World.size_drew] at hk
   have n1 : k ≠ w.heap.size + 1 + 1 + 1 := by omega
   have n2 : k ≠ w.heap.size + 1 + 1 + 1 + 1 := by omega
   repeat (first | rw [Below.heap_setCell _ _ _ k n1] | rw [Below.heap_setCell _ _ _ k n2])
  ·
   try simp only [World.size_drew] at hk
   have h2 := SH.out
   have h3 := SG.out
   show _ ≤ k
   omega
  ·
   intro k hk hl
   have h1 := D4.out.hl
   have h2 := SH.out
   have h3 := SG.out
   try simp only [World.size_drew] at hk
   have n1 : k ≠ w.heap.size + 1 + 1 + 1 := by omega
   have n2 : k ≠ w.heap.size + 1 + 1 + 1 + 1 := by omega
   repeat (first | rw [Below.heap_setCell _ _ _ k n1] | rw [Below.heap_setCell _ _ _ k n2])
  ·
   try simp only [World.size_drew] at hk
   have h2 := SH.out
   have h3 := SG.out
   show _ ≤ k
   omega
  ·
   intro k hk hl
   have h1 := D4.out.hl
   have h2 := SH.out
   have h3 := SG.out
   try simp only [World.size_drew] at hk
   have n1 : k ≠ w.heap.size + 1 + 1 + 1 := by omega
   have n2 : k ≠ w.heap.size + 1 + 1 + 1 + 1 := by omega
   repeat (first | rw [Below.heap_setCell _ _ _ k n1] | rw [Below.heap_setCell _ _ _ k n2])
  ·
   try simp only [World.size_drew] at hk
   have h2 := SH.out
   have h3 := SG.out
   show _ ≤ k
   omega
  ·
   intro k hk hl
   have h1 := D4.out.hl
   have h2 := SH.out
   have h3 := SG.out
   try simp only [World.size_drew] at hk
   have n1 : k ≠ w.heap.size + 1 + 1 + 1 := by omega
   have n2 : k ≠ w.heap.size + 1 + 1 + 1 + 1 := by omega
   repeat (first | rw [Below.heap_setCell _ _ _ k n1] | rw [Below.heap_setCell _ _ _ k n2])
  ·
   try simp only [World.size_drew] at hk
   have h2 := SH.out
   have h3 := SG.out
   show _ ≤ k
   omega
  ·
   have := D4.out.K
   repeat (first | with_reducible exact this | with_reducible refine Below.setCell ?_ (by simp <;> omega) _)
 | some r =>
  obtain ⟨z, st, id⟩ := r
  obtain ⟨n, caps, hl, hen, hcl⟩ := pick_some (B := W0.drew.heap.size) (S := S) (vn := .slice A1 g.nodes.length c1) (ve := .slice A2 g.edges.length c2) hch HS.out
  have hL := hl w1 _ HM.out
  simp only [World.size_drew] at hL
  have HR := Lib.hid (show doOf c g o = (if st = 0 then z else g, ⟨st, id, [], [], []⟩) by simp [doOf, hch])
  have HCL := Lib.hid hcl
  have eg' : ∀ args w, (callFunc n args).run Tryz.prog w = .ok (.enter n args) w := hen
  clear hen
  clear d0 d1 d2 d3 d4 o0 o1 o2 o3 o4 x0 x1 x2 x3 hch hl hcl
  go_wp2_with fail
  refine sched_on HK1.out ?_
  refine sched_step (by simp only [opT, opS, opZ]; rfl) ?_
  go_wp2_with fail
  refine sched_on HK1.out ?_
  repeat (refine sched_take (v := ?_) (by simp only [opT, opS, opZ]; rfl) (Or.inl ⟨by rfl, fun W hW => ?_⟩) HK1.out ?_; rotate_left; (skip; clear hW; go_simp; with_reducible rfl); simp only [Act.put, putT, putZ, putS])
  refine sched_done ?_
  clear hL
  have D1 := Lib.hid (DB.out.below ((Below.refl W0.heap.size W0).drew.trans hb1))
  have bl := D1.out.hl
  clear HK HK1 DB HM
  go_wp2_with fail
  refine (HCL.out w1 HC.out).mono ?_
  rintro e w2 ⟨zn, ze, rfl, hgz, hb⟩
  obtain ⟨⟨A3, L3, c3, rfl⟩, A4, L4, c4, rfl⟩ := hgz.sl3
  have s2 := hb.size
  have D2 := Lib.hid (D1.out.below hb)
  have HZ := Lib.hid hgz
  clear hb hgz D1 HC HCL eg'
  have g1 : w.heap.size + 1 < w2.heap.size := by omega
  obtain ⟨x0, x1, x2, x3, xf⟩ := D2.out.bg
  by_cases h0 : st = 0
  ·
   subst h0
   go_wp2_with fail
   have HH := Lib.hid (show True from trivial)
   obtain ⟨W3, hW3⟩ : ∃ W3, W3 = w2.alloc (.cells #[.slice A3 L3 c3, .slice A4 L4 c4, .int .i64 z.nn, .int .i64 z.ne, .int .i64 0, .int .i64 id, .slice none 0 0, .slice none 0 0, .slice none 0 0] 115) := ⟨_, rfl⟩
   rw [← hW3]
   have KA := Lib.hid (show Below w2.heap.size w2 W3 by rw [hW3]; exact (Below.refl _ w2).alloc (Nat.le_refl _) _)
   have e9 : W3.heap[w2.heap.size]? = some (.cells #[.slice A3 L3 c3, .slice A4 L4 c4, .int .i64 z.nn, .int .i64 z.ne, .int .i64 0, .int .i64 id, .slice none 0 0, .slice none 0 0, .slice none 0 0] 115 (0, 0)) := by rw [hW3]; exact heap_alloc_new w2 _
   have s4 : W3.heap.size = w2.heap.size + 1 := by rw [hW3]; simp
   have D3 := Lib.hid (D2.out.below KA.out)
   have HZ := Lib.hid (HZ.out.below KA.out)
   have q : ∀ i v, (#[.slice A3 L3 c3, .slice A4 L4 c4, .int .i64 z.nn, .int .i64 z.ne, .int .i64 0, .int .i64 id, .slice none 0 0, .slice none 0 0, .slice none 0 0] : Array Value)[i]? = some v → W3.cell? ⟨w2.heap.size, i, none⟩ = some v := fun i v h => by simp only [World.cell?, e9]; exact h
   have m0 := q 0 _ rfl
   have m1 := q 1 _ rfl
   have m2 := q 2 _ rfl
   have m3 := q 3 _ rfl
   have m4 := q 4 _ rfl
   have m5 := q 5 _ rfl
   have m6 := q 6 _ rfl
   have m7 := q 7 _ rfl
   have m8 := q 8 _ rfl
   clear q e9 hW3 KA D2 x0 x1 x2 x3 xf
   obtain ⟨x0, x1, x2, x3, xf⟩ := D3.out.bg
   have bl3 := D3.out.hl
   have k1 : w.heap.size + 1 < W3.heap.size := by omega
   have k2 : w2.heap.size < W3.heap.size := by omega
   have k3 : ¬ w2.heap.size = w.heap.size + 1 + 1 + 1 := by omega
   have k4 : ¬ w2.heap.size = w.heap.size + 1 + 1 + 1 + 1 := by omega
   have SH := Lib.hid s4
   have SI := Lib.hid s2
   have SJ := Lib.hid s1
   have SK := Lib.hid S0.out
   clear s4 s1
   refine wp_region_schedK (fun k => k ≠ w.heap.size + 1 + 1 + 1 ∧ k ≠ w.heap.size + 1 + 1 + 1 + 1) [(0, true), (1, true), (2, true), (3, true), (4, false), (5, false)] (by kernel_rfl) (by kernel_rfl) (fun hS => ?_)
   have HK := Lib.hid hS
   clear hS
   replace D3 := Lib.hid (D3.out.below (Below.refl W3.heap.size W3).drew)
   replace HZ := Lib.hid (HZ.out.below (Below.refl W3.heap.size W3).drew)
   revert HK D3 HZ
   generalize W3.drew = Wd
   intro HK D3 HZ
   repeat (refine sched_take (v := ?_) (by simp only [opT, opS, opZ]; rfl) (Or.inl ⟨by rfl, fun W hW => ?_⟩) HK.out ?_; rotate_left; (have hc := fun b o hn hm hb => hW.cell b o ⟨hn, hm⟩ hb; clear hW; go_simp; with_reducible rfl); simp only [Act.put, putT, putZ, putS])
   refine sched_step (by simp only [opT, opS, opZ]; rfl) ?_
   obtain ⟨y0, y1, y2, y3, yf⟩ := D3.out.bo
   obtain ⟨_, ⟨r0, r1, r2, r3, r4⟩, rf⟩ := D3.out.cells
   go_wp2_with fail
   refine sched_on (by repeat (first | (with_reducible exact HK.out) | (with_reducible refine Kept.setCell ?_ (.inr (by simp)) _))) ?_
   refine sched_step (by simp only [opT, opS, opZ]; rfl) ?_
   go_wp2_with fail
   refine sched_on (by repeat (first | (with_reducible exact HK.out) | (with_reducible refine Kept.setCell ?_ (.inr (by simp)) _))) ?_
   refine sched_done ?_
   clear HK
   go_wp2
   refine bodyPost_ret (v := .tuple #[.agg #[.slice A3 L3 c3, .slice A4 L4 c4, .int .i64 z.nn, .int .i64 z.ne], .agg #[.int .i64 0, .int .i64 id, .slice none 0 0, .slice none 0 0, .slice none 0 0]]) (by simp [results, Tryz.results36, go_sem, y0, y1, y2, y3, r0, r1, r2, r3, r4]; try rfl) rfl ?_
   rw [HR.out, if_pos trivial]
   refine ⟨_, _, _, rfl, Gr.mono (S := fun k => w1.heap.size ≤ k) (HZ.out.move (w' := _) ?_) (fun k hk _ => ?_), ⟨_, _, _, rfl, Row.nil _ _ _, Row.nil _ _ _, Row.nil _ _ _⟩, ?_⟩
   ·
    intro k hk hl
    have h2 := SH.out
    have h3 := SI.out
    have h4 := SJ.out
    have h5 := SK.out
    try simp only [World.size_drew] at hk
    have n1 : k ≠ w.heap.size + 1 + 1 + 1 := by omega
    have n2 : k ≠ w.heap.size + 1 + 1 + 1 + 1 := by omega
    repeat (first | rw [Below.heap_setCell _ _ _ k n1] | rw [Below.heap_setCell _ _ _ k n2])
    try rfl
   ·
    have h2 := SH.out
    have h3 := SI.out
    have h4 := SJ.out
    have h5 := SK.out
    try simp only [World.size_drew] at hk
    show _ ≤ k
    omega
   ·
    have := D3.out.K
    repeat (first | with_reducible exact this | with_reducible refine Below.setCell ?_ (by simp <;> omega) _)
  ·
   go_wp2_with fail
   have HH := Lib.hid (show True from trivial)
   obtain ⟨W3, hW3⟩ : ∃ W3, W3 = w2.alloc (.cells #[.slice A3 L3 c3, .slice A4 L4 c4, .int .i64 z.nn, .int .i64 z.ne, .int .i64 st, .int .i64 id, .slice none 0 0, .slice none 0 0, .slice none 0 0] 115) := ⟨_, rfl⟩
   rw [← hW3]
   have KA := Lib.hid (show Below w2.heap.size w2 W3 by rw [hW3]; exact (Below.refl _ w2).alloc (Nat.le_refl _) _)
   have e9 : W3.heap[w2.heap.size]? = some (.cells #[.slice A3 L3 c3, .slice A4 L4 c4, .int .i64 z.nn, .int .i64 z.ne, .int .i64 st, .int .i64 id, .slice none 0 0, .slice none 0 0, .slice none 0 0] 115 (0, 0)) := by rw [hW3]; exact heap_alloc_new w2 _
   have s4 : W3.heap.size = w2.heap.size + 1 := by rw [hW3]; simp
   have D3 := Lib.hid (D2.out.below KA.out)
   have HZ := Lib.hid (HZ.out.below KA.out)
   have q : ∀ i v, (#[.slice A3 L3 c3, .slice A4 L4 c4, .int .i64 z.nn, .int .i64 z.ne, .int .i64 st, .int .i64 id, .slice none 0 0, .slice none 0 0, .slice none 0 0] : Array Value)[i]? = some v → W3.cell? ⟨w2.heap.size, i, none⟩ = some v := fun i v h => by simp only [World.cell?, e9]; exact h
   have m0 := q 0 _ rfl
   have m1 := q 1 _ rfl
   have m2 := q 2 _ rfl
   have m3 := q 3 _ rfl
   have m4 := q 4 _ rfl
   have m5 := q 5 _ rfl
   have m6 := q 6 _ rfl
   have m7 := q 7 _ rfl
   have m8 := q 8 _ rfl
   clear q e9 hW3 KA D2 x0 x1 x2 x3 xf
   obtain ⟨x0, x1, x2, x3, xf⟩ := D3.out.bg
   have bl3 := D3.out.hl
   have k1 : w.heap.size + 1 < W3.heap.size := by omega
   have k2 : w2.heap.size < W3.heap.size := by omega
   have k3 : ¬ w2.heap.size = w.heap.size + 1 + 1 + 1 := by omega
   have k4 : ¬ w2.heap.size = w.heap.size + 1 + 1 + 1 + 1 := by omega
   have SH := Lib.hid s4
   have SI := Lib.hid s2
   have SJ := Lib.hid s1
   have SK := Lib.hid S0.out
   clear s4 s1
   refine wp_region_schedK (fun k => k ≠ w.heap.size + 1 + 1 + 1 ∧ k ≠ w.heap.size + 1 + 1 + 1 + 1) [(0, true), (2, true), (3, true), (1, false), (4, false), (5, false)] (by kernel_rfl) (by kernel_rfl) (fun hS => ?_)
   have HK := Lib.hid hS
   clear hS
   repeat (refine sched_take (v := ?_) (by simp only [opT, opS, opZ]; rfl) (Or.inl ⟨by rfl, fun W hW => ?_⟩) HK.out ?_; rotate_left; (have hc := fun b o hn hm hb => hW.cell b o ⟨hn, hm⟩ hb; clear hW; go_simp; with_reducible rfl); simp only [Act.put, putT, putZ, putS])
   refine sched_step (by simp only [opT, opS, opZ]; rfl) ?_
   go_wp2_with fail
   have D4 := Lib.hid (D3.out.below (Below.refl W3.heap.size W3).drew)
   refine (ownA_calls _ _ g _ _ D4.out.hg HS.out.small).mono ?_
   rintro e w4 ⟨zn, ze, nvs, rfl, hog, hb⟩
   have HZ := Lib.hid hog.gr
   obtain ⟨⟨A5, L5, c5, rfl⟩, A6, L6, c6, rfl⟩ := hog.gr.sl3
   have HK4 := Lib.hid (HK.out.below hb)
   have D5 := Lib.hid (D4.out.below hb)
   clear hb hog x0 x1 x2 x3 xf m0 m1 m2 m3 m4 m5 m6 m7 m8
   obtain ⟨y0, y1, y2, y3, yf⟩ := D5.out.bo
   obtain ⟨_, ⟨r0, r1, r2, r3, r4⟩, rf⟩ := D5.out.cells
   go_wp2_with fail
   refine sched_on HK4.out ?_
   refine sched_step (by simp only [opT, opS, opZ]; rfl) ?_
   go_wp2_with fail
   refine sched_on (by repeat (first | (with_reducible exact HK4.out) | with_reducible refine Kept.setCell ?_ (.inr (by simp)) _)) ?_
   refine sched_step (by simp only [opT, opS, opZ]; rfl) ?_
   go_wp2_with fail
   refine sched_on (by repeat (first | (with_reducible exact HK4.out) | with_reducible refine Kept.setCell ?_ (.inr (by simp)) _)) ?_
   refine sched_done ?_
   clear HK HK4
   go_wp2
   refine bodyPost_ret (v := .tuple #[.agg #[.slice A5 L5 c5, .slice A6 L6 c6, .int .i64 g.nn, .int .i64 g.ne], .agg #[.int .i64 st, .int .i64 id, .slice none 0 0, .slice none 0 0, .slice none 0 0]]) (by simp [results, Tryz.results36, go_sem, y0, y1, y2, y3, r0, r1, r2, r3, r4]; try rfl) rfl ?_
   rw [HR.out, if_neg h0]
   refine ⟨_, _, _, rfl, Gr.mono (S := fun k => W3.drew.heap.size ≤ k) (HZ.out.move (w' := _) ?_) (fun k hk _ => ?_), ⟨_, _, _, rfl, Row.nil _ _ _, Row.nil _ _ _, Row.nil _ _ _⟩, ?_⟩
   ·
    intro k hk hl
    have h2 := SH.out
    have h3 := SI.out
    have h4 := SJ.out
    have h5 := SK.out
    try simp only [World.size_drew] at hk
    have n1 : k ≠ w.heap.size + 1 + 1 + 1 := by omega
    have n2 : k ≠ w.heap.size + 1 + 1 + 1 + 1 := by omega
    repeat (first | rw [Below.heap_setCell _ _ _ k n1] | rw [Below.heap_setCell _ _ _ k n2])
    try rfl
   ·
    have h2 := SH.out
    have h3 := SI.out
    have h4 := SJ.out
    have h5 := SK.out
    try simp only [World.size_drew] at hk
    show _ ≤ k
    omega
   ·
    have := D5.out.K
    repeat (first | with_reducible exact this | with_reducible refine Below.setCell ?_ (by simp <;> omega) _)

end Go.Proofs.YtpehmmdbjakkpaaGreat
