/- The closures of apply.changes. -/
import Derived.Test.YtpehmmdbjakkpaaGreatChgM
import Derived.Test.YtpehmmdbjakkpaaGreatFuseM
import Derived.Test.YtpehmmdbjakkpaaGreatDelM
namespace Go.Proofs.YtpehmmdbjakkpaaGreat
open Go.RowKit Go.Shelf
set_option linter.unusedSimpArgs false
set_option linter.unusedVariables false
/-- All that the changes ask of a graph. -/
structure Rdy (c : CfgD) (g : GraphD) : Prop where
 small : g.small
 ids : c.ids ≤ 1000000
 eids : c.eids ≤ 1000000
 nn : 0 ≤ g.nn
 ne : 0 ≤ g.ne
 ln : g.nodes.length ≤ 100000
 le : g.edges.length ≤ 100000
 hr : ∀ x ∈ g.nodes, Rises x.ps x.ps.length
 hp : ∀ x ∈ g.nodes, x.ps.length ≤ 100
set_option maxRecDepth 100000 in
set_option maxHeartbeats 4000000 in
theorem chgAdd_calls (w : World) (B : Nat) (S : Nat → Prop) (c : CfgD) (g : GraphD) (vn ve : Value) (o : OpD) (h : Cap B S c g vn ve o w) (hs : Rdy c g) : Calls Tryz.prog 86 #[.pointer (some ⟨B + 4, 0, none⟩), .pointer (some ⟨B, 0, none⟩), .pointer (some ⟨B + 1, 0, none⟩)] w (DonePost w (addOf c g).1 (addOf c g).2.2 (addOf c g).2.1) := by
 obtain ⟨⟨A1, c1, rfl⟩, ⟨A2, c2, rfl⟩⟩ := h.hg.slices
 have CW := Lib.hid h
 have HS := Lib.hid hs
 clear h hs
 go_enter Tryz.func86, Tryz.ntmps86
 go_wp2
 obtain ⟨W0, hW⟩ : ∃ W0, W0 = w.alloc (.cells #[.slice none 0 0, .slice none 0 0, .int .i64 0, .int .i64 0, .int .i64 0, .int .i64 0, .slice none 0 0, .slice none 0 0, .slice none 0 0] 115) := ⟨_, rfl⟩
 have K0 := Lib.hid (show Below w.heap.size w W0 by rw [hW]; exact (Below.refl _ w).alloc (Nat.le_refl _) _)
 have s0 : W0.heap.size = w.heap.size + 1 := by rw [hW]; simp
 have D0 := Lib.hid (show W0.heap[w.heap.size]? = some (.cells #[.slice none 0 0, .slice none 0 0, .int .i64 0, .int .i64 0, .int .i64 0, .int .i64 0, .slice none 0 0, .slice none 0 0, .slice none 0 0] 115 (0, 0)) by rw [hW]; exact heap_alloc_new w _)
 have C0 := Lib.hid (CW.out.below K0.out)
 have bl := CW.out.hl
 rw [← hW]
 clear hW
 refine wp_region_schedK (fun k => k ≠ w.heap.size) [(0, true), (1, true), (2, true), (3, false), (4, true), (5, true), (6, true), (7, false), (8, false)] (by kernel_rfl) (by kernel_rfl) (fun hS => ?_)
 have HK := Lib.hid hS
 clear hS
 have g1 : B < W0.heap.size := by omega
 have g2 : B + 1 < W0.heap.size := by omega
 have g3 : B + 2 < W0.heap.size := by omega
 have g4 : B + 3 < W0.heap.size := by omega
 have g5 : B + 4 < W0.heap.size := by omega
 have n1 : ¬ B = w.heap.size := by omega
 have n2 : ¬ B + 1 = w.heap.size := by omega
 have n3 : ¬ B + 2 = w.heap.size := by omega
 have n4 : ¬ B + 3 = w.heap.size := by omega
 have n5 : ¬ B + 4 = w.heap.size := by omega
 have S0 := Lib.hid s0
 clear s0
 obtain ⟨x0, x1, x2, x3, xf⟩ := C0.out.bg
 obtain ⟨⟨d0, d1, d2, d3, d4⟩, ⟨o0, o1, o2, o3, o4⟩, f1, f2⟩ := C0.out.cells
 have K1 := Lib.hid K0.out.drew
 have C1 := Lib.hid (CW.out.below K1.out)
 generalize hr : addOf c g = r
 have HR := Lib.hid hr
 clear hr
 obtain ⟨z, id, st⟩ := r
 repeat (refine sched_take (v := ?_) (by simp only [opT, opS, opZ]; rfl) (Or.inl ⟨by rfl, fun W hW => ?_⟩) HK.out ?_; rotate_left; (have hc := fun b o hn hb => hW.cell b o hn hb; clear hW; go_simp; with_reducible rfl); simp only [Act.put, putT, putZ, putS])
 refine sched_step (by simp only [opT, opS, opZ]; rfl) ?_
 go_wp2_with fail
 refine (add_calls _ _ c g _ _ C1.out.hg HS.out.small HS.out.ids HS.out.nn HS.out.ln).mono ?_
 rw [HR.out]
 rintro e w1 ⟨zn, ze, rfl, hgz, hb⟩
 replace hgz : Gr w1 (fun k => W0.drew.heap.size ≤ k) z zn ze := hgz
 obtain ⟨⟨A3, L3, c3, rfl⟩, A4, L4, c4, rfl⟩ := hgz.sl3
 have s1 := hb.size
 have HK1 := Lib.hid (HK.out.below hb)
 have HZ := Lib.hid hgz
 have K2 := Lib.hid (K1.out.trans (hb.mono K1.out.size))
 have D1 := Lib.hid ((hb.block w.heap.size (by have := S0.out; simp; omega)).trans D0.out)
 clear hb hgz x0 x1 x2 x3 xf d0 d1 d2 d3 d4 o0 o1 o2 o3 o4 f1 f2
 simp only [World.size_drew] at s1
 go_wp2_with fail
 refine sched_on HK1.out ?_
 repeat (refine sched_take (v := ?_) (by simp only [opT, opS, opZ]; rfl) (Or.inl ⟨by rfl, fun W hW => ?_⟩) HK1.out ?_; rotate_left; (have hc := fun b o hn hb => hW.cell b o hn hb; clear hW; go_simp; with_reducible rfl); simp only [Act.put, putT, putZ, putS])
 refine sched_step (by simp only [opT, opS, opZ]; rfl) ?_
 go_wp2_with fail
 refine (done2_calls _ _ _ _ _ _ _ _ _ _ _).mono ?_
 rintro e w2 ⟨rfl, hb⟩
 have s2 := hb.size
 have HK2 := Lib.hid (HK1.out.below hb)
 have HZ := Lib.hid (HZ.out.below hb)
 have K3 := Lib.hid (K2.out.trans (hb.mono K2.out.size))
 have D2 := (hb.block w.heap.size (by have := S0.out; omega)).trans D1.out
 clear hb
 have q : ∀ i v, (#[.slice none 0 0, .slice none 0 0, .int .i64 0, .int .i64 0, .int .i64 0, .int .i64 0, .slice none 0 0, .slice none 0 0, .slice none 0 0] : Array Value)[i]? = some v → w2.cell? ⟨w.heap.size, i, none⟩ = some v := fun i v h => by simp only [World.cell?, D2]; exact h
 have q0 := q 0 _ rfl
 have q1 := q 1 _ rfl
 have q2 := q 2 _ rfl
 have q3 := q 3 _ rfl
 have q4 := q 4 _ rfl
 have q5 := q 5 _ rfl
 have q6 := q 6 _ rfl
 have q7 := q 7 _ rfl
 have q8 := q 8 _ rfl
 have qf : ∀ i, w2.frozen? ⟨w.heap.size, i, none⟩ = false := fun i => by simp [World.frozen?, D2]
 clear q D2
 go_wp2_with fail
 refine sched_on HK2.out ?_
 repeat (refine sched_take (v := ?_) (by simp only [opT, opS, opZ]; rfl) (Or.inl ⟨by rfl, fun W hW => ?_⟩) HK2.out ?_; rotate_left; (have hc := fun b o hn hb => hW.cell b o hn hb; clear hW; go_simp; with_reducible rfl); simp only [Act.put, putT, putZ, putS])
 refine sched_step (by simp only [opT, opS, opZ]; rfl) ?_
 go_wp2_with fail
 refine sched_on (by repeat (first | (with_reducible exact HK2.out) | refine Kept.setCell ?_ (.inr (by simp)) _)) ?_
 refine sched_done ?_
 clear HK HK1 HK2
 go_wp2
 refine bodyPost_ret (v := .agg #[.slice A3 L3 c3, .slice A4 L4 c4, .int .i64 z.nn, .int .i64 z.ne, .int .i64 st, .int .i64 id, .slice none 0 0, .slice none 0 0, .slice none 0 0]) (by simp [results, Tryz.results86, go_sem, q0, q1, q2, q3, q4, q5, q6, q7, q8]; try rfl) rfl ?_
 rw [HR.out]
 have hdr : W0.drew.heap.size = w.heap.size + 1 := by have := S0.out; simp; omega
 refine ⟨_, _, rfl, Gr.mono (S := fun k => W0.drew.heap.size ≤ k) (HZ.out.move fun k hk hl => ?_) (fun k hk _ => by omega), ?_⟩
 ·
  have hn : k ≠ w.heap.size := by omega
  repeat rw [Below.heap_setCell _ _ _ k hn]
 ·
  have := K3.out
  repeat (first | with_reducible exact this | refine Below.setCell ?_ (by simp) _)
set_option maxRecDepth 100000 in
set_option maxHeartbeats 4000000 in
theorem chgLink_calls (w : World) (B : Nat) (S : Nat → Prop) (c : CfgD) (g : GraphD) (vn ve : Value) (o : OpD) (h : Cap B S c g vn ve o w) (hs : Rdy c g) : Calls Tryz.prog 88 #[.pointer (some ⟨B + 4, 0, none⟩), .pointer (some ⟨B, 0, none⟩), .pointer (some ⟨B + 1, 0, none⟩), .pointer (some ⟨B + 2, 0, none⟩)] w (DonePost w (linkOf c g o.a o.b).1 (linkOf c g o.a o.b).2.2 (linkOf c g o.a o.b).2.1) := by
 obtain ⟨⟨A1, c1, rfl⟩, ⟨A2, c2, rfl⟩⟩ := h.hg.slices
 have CW := Lib.hid h
 have HS := Lib.hid hs
 clear h hs
 go_enter Tryz.func88, Tryz.ntmps88
 go_wp2
 obtain ⟨W0, hW⟩ : ∃ W0, W0 = w.alloc (.cells #[.slice none 0 0, .slice none 0 0, .int .i64 0, .int .i64 0, .int .i64 0, .int .i64 0, .slice none 0 0, .slice none 0 0, .slice none 0 0] 115) := ⟨_, rfl⟩
 have K0 := Lib.hid (show Below w.heap.size w W0 by rw [hW]; exact (Below.refl _ w).alloc (Nat.le_refl _) _)
 have s0 : W0.heap.size = w.heap.size + 1 := by rw [hW]; simp
 have D0 := Lib.hid (show W0.heap[w.heap.size]? = some (.cells #[.slice none 0 0, .slice none 0 0, .int .i64 0, .int .i64 0, .int .i64 0, .int .i64 0, .slice none 0 0, .slice none 0 0, .slice none 0 0] 115 (0, 0)) by rw [hW]; exact heap_alloc_new w _)
 have C0 := Lib.hid (CW.out.below K0.out)
 have bl := CW.out.hl
 rw [← hW]
 clear hW
 refine wp_region_schedK (fun k => k ≠ w.heap.size) [(0, true), (1, true), (2, true), (3, true), (4, true), (5, true), (6, true), (7, false), (8, true), (9, true), (10, true), (11, false), (12, false)] (by kernel_rfl) (by kernel_rfl) (fun hS => ?_)
 have HK := Lib.hid hS
 clear hS
 have g1 : B < W0.heap.size := by omega
 have g2 : B + 1 < W0.heap.size := by omega
 have g3 : B + 2 < W0.heap.size := by omega
 have g4 : B + 3 < W0.heap.size := by omega
 have g5 : B + 4 < W0.heap.size := by omega
 have n1 : ¬ B = w.heap.size := by omega
 have n2 : ¬ B + 1 = w.heap.size := by omega
 have n3 : ¬ B + 2 = w.heap.size := by omega
 have n4 : ¬ B + 3 = w.heap.size := by omega
 have n5 : ¬ B + 4 = w.heap.size := by omega
 have S0 := Lib.hid s0
 clear s0
 obtain ⟨x0, x1, x2, x3, xf⟩ := C0.out.bg
 obtain ⟨⟨d0, d1, d2, d3, d4⟩, ⟨o0, o1, o2, o3, o4⟩, f1, f2⟩ := C0.out.cells
 have K1 := Lib.hid K0.out.drew
 have C1 := Lib.hid (CW.out.below K1.out)
 generalize hr : linkOf c g o.a o.b = r
 have HR := Lib.hid hr
 clear hr
 obtain ⟨z, id, st⟩ := r
 repeat (refine sched_take (v := ?_) (by simp only [opT, opS, opZ]; rfl) (Or.inl ⟨by rfl, fun W hW => ?_⟩) HK.out ?_; rotate_left; (have hc := fun b o hn hb => hW.cell b o hn hb; clear hW; go_simp; with_reducible rfl); simp only [Act.put, putT, putZ, putS])
 refine sched_step (by simp only [opT, opS, opZ]; rfl) ?_
 go_wp2_with fail
 refine (link_calls _ _ c g _ _ o.a o.b C1.out.hg HS.out.small HS.out.eids HS.out.ne HS.out.le).mono ?_
 rw [HR.out]
 rintro e w1 ⟨zn, ze, rfl, hgz, hb⟩
 replace hgz : Gr w1 (fun k => W0.drew.heap.size ≤ k) z zn ze := hgz
 obtain ⟨⟨A3, L3, c3, rfl⟩, A4, L4, c4, rfl⟩ := hgz.sl3
 have s1 := hb.size
 have HK1 := Lib.hid (HK.out.below hb)
 have HZ := Lib.hid hgz
 have K2 := Lib.hid (K1.out.trans (hb.mono K1.out.size))
 have D1 := Lib.hid ((hb.block w.heap.size (by have := S0.out; simp; omega)).trans D0.out)
 clear hb hgz x0 x1 x2 x3 xf d0 d1 d2 d3 d4 o0 o1 o2 o3 o4 f1 f2
 simp only [World.size_drew] at s1
 go_wp2_with fail
 refine sched_on HK1.out ?_
 repeat (refine sched_take (v := ?_) (by simp only [opT, opS, opZ]; rfl) (Or.inl ⟨by rfl, fun W hW => ?_⟩) HK1.out ?_; rotate_left; (have hc := fun b o hn hb => hW.cell b o hn hb; clear hW; go_simp; with_reducible rfl); simp only [Act.put, putT, putZ, putS])
 refine sched_step (by simp only [opT, opS, opZ]; rfl) ?_
 go_wp2_with fail
 refine (done2_calls _ _ _ _ _ _ _ _ _ _ _).mono ?_
 rintro e w2 ⟨rfl, hb⟩
 have s2 := hb.size
 have HK2 := Lib.hid (HK1.out.below hb)
 have HZ := Lib.hid (HZ.out.below hb)
 have K3 := Lib.hid (K2.out.trans (hb.mono K2.out.size))
 have D2 := (hb.block w.heap.size (by have := S0.out; omega)).trans D1.out
 clear hb
 have q : ∀ i v, (#[.slice none 0 0, .slice none 0 0, .int .i64 0, .int .i64 0, .int .i64 0, .int .i64 0, .slice none 0 0, .slice none 0 0, .slice none 0 0] : Array Value)[i]? = some v → w2.cell? ⟨w.heap.size, i, none⟩ = some v := fun i v h => by simp only [World.cell?, D2]; exact h
 have q0 := q 0 _ rfl
 have q1 := q 1 _ rfl
 have q2 := q 2 _ rfl
 have q3 := q 3 _ rfl
 have q4 := q 4 _ rfl
 have q5 := q 5 _ rfl
 have q6 := q 6 _ rfl
 have q7 := q 7 _ rfl
 have q8 := q 8 _ rfl
 have qf : ∀ i, w2.frozen? ⟨w.heap.size, i, none⟩ = false := fun i => by simp [World.frozen?, D2]
 clear q D2
 go_wp2_with fail
 refine sched_on HK2.out ?_
 repeat (refine sched_take (v := ?_) (by simp only [opT, opS, opZ]; rfl) (Or.inl ⟨by rfl, fun W hW => ?_⟩) HK2.out ?_; rotate_left; (have hc := fun b o hn hb => hW.cell b o hn hb; clear hW; go_simp; with_reducible rfl); simp only [Act.put, putT, putZ, putS])
 refine sched_step (by simp only [opT, opS, opZ]; rfl) ?_
 go_wp2_with fail
 refine sched_on (by repeat (first | (with_reducible exact HK2.out) | refine Kept.setCell ?_ (.inr (by simp)) _)) ?_
 refine sched_done ?_
 clear HK HK1 HK2
 go_wp2
 refine bodyPost_ret (v := .agg #[.slice A3 L3 c3, .slice A4 L4 c4, .int .i64 z.nn, .int .i64 z.ne, .int .i64 st, .int .i64 id, .slice none 0 0, .slice none 0 0, .slice none 0 0]) (by simp [results, Tryz.results88, go_sem, q0, q1, q2, q3, q4, q5, q6, q7, q8]; try rfl) rfl ?_
 rw [HR.out]
 have hdr : W0.drew.heap.size = w.heap.size + 1 := by have := S0.out; simp; omega
 refine ⟨_, _, rfl, Gr.mono (S := fun k => W0.drew.heap.size ≤ k) (HZ.out.move fun k hk hl => ?_) (fun k hk _ => by omega), ?_⟩
 ·
  have hn : k ≠ w.heap.size := by omega
  repeat rw [Below.heap_setCell _ _ _ k hn]
 ·
  have := K3.out
  repeat (first | with_reducible exact this | refine Below.setCell ?_ (by simp) _)
set_option maxRecDepth 100000 in
set_option maxHeartbeats 4000000 in
theorem chgCut_calls (w : World) (B : Nat) (S : Nat → Prop) (c : CfgD) (g : GraphD) (vn ve : Value) (o : OpD) (h : Cap B S c g vn ve o w) (hs : Rdy c g) : Calls Tryz.prog 90 #[.pointer (some ⟨B + 3, 0, none⟩), .pointer (some ⟨B + 1, 0, none⟩), .pointer (some ⟨B + 2, 0, none⟩)] w (DonePost w (cutOf g o.a).1 (cutOf g o.a).2 0) := by
 obtain ⟨⟨A1, c1, rfl⟩, ⟨A2, c2, rfl⟩⟩ := h.hg.slices
 have CW := Lib.hid h
 have HS := Lib.hid hs
 clear h hs
 go_enter Tryz.func90, Tryz.ntmps90
 go_wp2
 obtain ⟨W0, hW⟩ : ∃ W0, W0 = w.alloc (.cells #[.slice none 0 0, .slice none 0 0, .int .i64 0, .int .i64 0, .int .i64 0, .int .i64 0, .slice none 0 0, .slice none 0 0, .slice none 0 0] 115) := ⟨_, rfl⟩
 have K0 := Lib.hid (show Below w.heap.size w W0 by rw [hW]; exact (Below.refl _ w).alloc (Nat.le_refl _) _)
 have s0 : W0.heap.size = w.heap.size + 1 := by rw [hW]; simp
 have D0 := Lib.hid (show W0.heap[w.heap.size]? = some (.cells #[.slice none 0 0, .slice none 0 0, .int .i64 0, .int .i64 0, .int .i64 0, .int .i64 0, .slice none 0 0, .slice none 0 0, .slice none 0 0] 115 (0, 0)) by rw [hW]; exact heap_alloc_new w _)
 have C0 := Lib.hid (CW.out.below K0.out)
 have bl := CW.out.hl
 rw [← hW]
 clear hW
 refine wp_region_schedK (fun k => k ≠ w.heap.size) [(0, true), (1, true), (2, true), (3, true), (4, false), (5, true), (6, true), (7, false), (8, false)] (by kernel_rfl) (by kernel_rfl) (fun hS => ?_)
 have HK := Lib.hid hS
 clear hS
 have g1 : B < W0.heap.size := by omega
 have g2 : B + 1 < W0.heap.size := by omega
 have g3 : B + 2 < W0.heap.size := by omega
 have g4 : B + 3 < W0.heap.size := by omega
 have g5 : B + 4 < W0.heap.size := by omega
 have n1 : ¬ B = w.heap.size := by omega
 have n2 : ¬ B + 1 = w.heap.size := by omega
 have n3 : ¬ B + 2 = w.heap.size := by omega
 have n4 : ¬ B + 3 = w.heap.size := by omega
 have n5 : ¬ B + 4 = w.heap.size := by omega
 have S0 := Lib.hid s0
 clear s0
 obtain ⟨x0, x1, x2, x3, xf⟩ := C0.out.bg
 obtain ⟨⟨d0, d1, d2, d3, d4⟩, ⟨o0, o1, o2, o3, o4⟩, f1, f2⟩ := C0.out.cells
 have K1 := Lib.hid K0.out.drew
 have C1 := Lib.hid (CW.out.below K1.out)
 generalize hr : cutOf g o.a = r
 have HR := Lib.hid hr
 clear hr
 obtain ⟨z, st⟩ := r
 repeat (refine sched_take (v := ?_) (by simp only [opT, opS, opZ]; rfl) (Or.inl ⟨by rfl, fun W hW => ?_⟩) HK.out ?_; rotate_left; (have hc := fun b o hn hb => hW.cell b o hn hb; clear hW; go_simp; with_reducible rfl); simp only [Act.put, putT, putZ, putS])
 refine sched_step (by simp only [opT, opS, opZ]; rfl) ?_
 go_wp2_with fail
 refine (cut_calls _ _ g _ _ o.a C1.out.hg HS.out.small).mono ?_
 rw [HR.out]
 rintro e w1 ⟨zn, ze, rfl, hgz, hb⟩
 replace hgz : Gr w1 (fun k => W0.drew.heap.size ≤ k) z zn ze := hgz
 obtain ⟨⟨A3, L3, c3, rfl⟩, A4, L4, c4, rfl⟩ := hgz.sl3
 have s1 := hb.size
 have HK1 := Lib.hid (HK.out.below hb)
 have HZ := Lib.hid hgz
 have K2 := Lib.hid (K1.out.trans (hb.mono K1.out.size))
 have D1 := Lib.hid ((hb.block w.heap.size (by have := S0.out; simp; omega)).trans D0.out)
 clear hb hgz x0 x1 x2 x3 xf d0 d1 d2 d3 d4 o0 o1 o2 o3 o4 f1 f2
 simp only [World.size_drew] at s1
 go_wp2_with fail
 refine sched_on HK1.out ?_
 repeat (refine sched_take (v := ?_) (by simp only [opT, opS, opZ]; rfl) (Or.inl ⟨by rfl, fun W hW => ?_⟩) HK1.out ?_; rotate_left; (have hc := fun b o hn hb => hW.cell b o hn hb; clear hW; go_simp; with_reducible rfl); simp only [Act.put, putT, putZ, putS])
 refine sched_step (by simp only [opT, opS, opZ]; rfl) ?_
 go_wp2_with fail
 refine (done1_calls _ _ _ _ _ _ _ _ _ _).mono ?_
 rintro e w2 ⟨rfl, hb⟩
 have s2 := hb.size
 have HK2 := Lib.hid (HK1.out.below hb)
 have HZ := Lib.hid (HZ.out.below hb)
 have K3 := Lib.hid (K2.out.trans (hb.mono K2.out.size))
 have D2 := (hb.block w.heap.size (by have := S0.out; omega)).trans D1.out
 clear hb
 have q : ∀ i v, (#[.slice none 0 0, .slice none 0 0, .int .i64 0, .int .i64 0, .int .i64 0, .int .i64 0, .slice none 0 0, .slice none 0 0, .slice none 0 0] : Array Value)[i]? = some v → w2.cell? ⟨w.heap.size, i, none⟩ = some v := fun i v h => by simp only [World.cell?, D2]; exact h
 have q0 := q 0 _ rfl
 have q1 := q 1 _ rfl
 have q2 := q 2 _ rfl
 have q3 := q 3 _ rfl
 have q4 := q 4 _ rfl
 have q5 := q 5 _ rfl
 have q6 := q 6 _ rfl
 have q7 := q 7 _ rfl
 have q8 := q 8 _ rfl
 have qf : ∀ i, w2.frozen? ⟨w.heap.size, i, none⟩ = false := fun i => by simp [World.frozen?, D2]
 clear q D2
 go_wp2_with fail
 refine sched_on HK2.out ?_
 repeat (refine sched_take (v := ?_) (by simp only [opT, opS, opZ]; rfl) (Or.inl ⟨by rfl, fun W hW => ?_⟩) HK2.out ?_; rotate_left; (have hc := fun b o hn hb => hW.cell b o hn hb; clear hW; go_simp; with_reducible rfl); simp only [Act.put, putT, putZ, putS])
 refine sched_step (by simp only [opT, opS, opZ]; rfl) ?_
 go_wp2_with fail
 refine sched_on (by repeat (first | (with_reducible exact HK2.out) | refine Kept.setCell ?_ (.inr (by simp)) _)) ?_
 refine sched_done ?_
 clear HK HK1 HK2
 go_wp2
 refine bodyPost_ret (v := .agg #[.slice A3 L3 c3, .slice A4 L4 c4, .int .i64 z.nn, .int .i64 z.ne, .int .i64 st, .int .i64 0, .slice none 0 0, .slice none 0 0, .slice none 0 0]) (by simp [results, Tryz.results90, go_sem, q0, q1, q2, q3, q4, q5, q6, q7, q8]; try rfl) rfl ?_
 rw [HR.out]
 have hdr : W0.drew.heap.size = w.heap.size + 1 := by have := S0.out; simp; omega
 refine ⟨_, _, rfl, Gr.mono (S := fun k => W0.drew.heap.size ≤ k) (HZ.out.move fun k hk hl => ?_) (fun k hk _ => by omega), ?_⟩
 ·
  have hn : k ≠ w.heap.size := by omega
  repeat rw [Below.heap_setCell _ _ _ k hn]
 ·
  have := K3.out
  repeat (first | with_reducible exact this | refine Below.setCell ?_ (by simp) _)
set_option maxRecDepth 100000 in
set_option maxHeartbeats 4000000 in
theorem chgSet_calls (w : World) (B : Nat) (S : Nat → Prop) (c : CfgD) (g : GraphD) (vn ve : Value) (o : OpD) (h : Cap B S c g vn ve o w) (hs : Rdy c g) : Calls Tryz.prog 92 #[.pointer (some ⟨B + 3, 0, none⟩), .pointer (some ⟨B + 1, 0, none⟩), .pointer (some ⟨B + 2, 0, none⟩)] w (DonePost w (setOf g o.a o.p o.v).1 (setOf g o.a o.p o.v).2 0) := by
 obtain ⟨⟨A1, c1, rfl⟩, ⟨A2, c2, rfl⟩⟩ := h.hg.slices
 have CW := Lib.hid h
 have HS := Lib.hid hs
 clear h hs
 go_enter Tryz.func92, Tryz.ntmps92
 go_wp2
 obtain ⟨W0, hW⟩ : ∃ W0, W0 = w.alloc (.cells #[.slice none 0 0, .slice none 0 0, .int .i64 0, .int .i64 0, .int .i64 0, .int .i64 0, .slice none 0 0, .slice none 0 0, .slice none 0 0] 115) := ⟨_, rfl⟩
 have K0 := Lib.hid (show Below w.heap.size w W0 by rw [hW]; exact (Below.refl _ w).alloc (Nat.le_refl _) _)
 have s0 : W0.heap.size = w.heap.size + 1 := by rw [hW]; simp
 have D0 := Lib.hid (show W0.heap[w.heap.size]? = some (.cells #[.slice none 0 0, .slice none 0 0, .int .i64 0, .int .i64 0, .int .i64 0, .int .i64 0, .slice none 0 0, .slice none 0 0, .slice none 0 0] 115 (0, 0)) by rw [hW]; exact heap_alloc_new w _)
 have C0 := Lib.hid (CW.out.below K0.out)
 have bl := CW.out.hl
 rw [← hW]
 clear hW
 refine wp_region_schedK (fun k => k ≠ w.heap.size) [(0, true), (1, true), (2, true), (3, true), (4, true), (5, true), (6, true), (7, true), (8, false), (9, true), (10, true), (11, false), (12, false)] (by kernel_rfl) (by kernel_rfl) (fun hS => ?_)
 have HK := Lib.hid hS
 clear hS
 have g1 : B < W0.heap.size := by omega
 have g2 : B + 1 < W0.heap.size := by omega
 have g3 : B + 2 < W0.heap.size := by omega
 have g4 : B + 3 < W0.heap.size := by omega
 have g5 : B + 4 < W0.heap.size := by omega
 have n1 : ¬ B = w.heap.size := by omega
 have n2 : ¬ B + 1 = w.heap.size := by omega
 have n3 : ¬ B + 2 = w.heap.size := by omega
 have n4 : ¬ B + 3 = w.heap.size := by omega
 have n5 : ¬ B + 4 = w.heap.size := by omega
 have S0 := Lib.hid s0
 clear s0
 obtain ⟨x0, x1, x2, x3, xf⟩ := C0.out.bg
 obtain ⟨⟨d0, d1, d2, d3, d4⟩, ⟨o0, o1, o2, o3, o4⟩, f1, f2⟩ := C0.out.cells
 have K1 := Lib.hid K0.out.drew
 have C1 := Lib.hid (CW.out.below K1.out)
 generalize hr : setOf g o.a o.p o.v = r
 have HR := Lib.hid hr
 clear hr
 obtain ⟨z, st⟩ := r
 repeat (refine sched_take (v := ?_) (by simp only [opT, opS, opZ]; rfl) (Or.inl ⟨by rfl, fun W hW => ?_⟩) HK.out ?_; rotate_left; (have hc := fun b o hn hb => hW.cell b o hn hb; clear hW; go_simp; with_reducible rfl); simp only [Act.put, putT, putZ, putS])
 refine sched_step (by simp only [opT, opS, opZ]; rfl) ?_
 go_wp2_with fail
 refine (set_calls _ _ g _ _ o.a o.p o.v C1.out.hg HS.out.small HS.out.hr HS.out.hp).mono ?_
 rw [HR.out]
 rintro e w1 ⟨zn, ze, rfl, hgz, hb⟩
 replace hgz : Gr w1 (fun k => W0.drew.heap.size ≤ k) z zn ze := hgz
 obtain ⟨⟨A3, L3, c3, rfl⟩, A4, L4, c4, rfl⟩ := hgz.sl3
 have s1 := hb.size
 have HK1 := Lib.hid (HK.out.below hb)
 have HZ := Lib.hid hgz
 have K2 := Lib.hid (K1.out.trans (hb.mono K1.out.size))
 have D1 := Lib.hid ((hb.block w.heap.size (by have := S0.out; simp; omega)).trans D0.out)
 clear hb hgz x0 x1 x2 x3 xf d0 d1 d2 d3 d4 o0 o1 o2 o3 o4 f1 f2
 simp only [World.size_drew] at s1
 go_wp2_with fail
 refine sched_on HK1.out ?_
 repeat (refine sched_take (v := ?_) (by simp only [opT, opS, opZ]; rfl) (Or.inl ⟨by rfl, fun W hW => ?_⟩) HK1.out ?_; rotate_left; (have hc := fun b o hn hb => hW.cell b o hn hb; clear hW; go_simp; with_reducible rfl); simp only [Act.put, putT, putZ, putS])
 refine sched_step (by simp only [opT, opS, opZ]; rfl) ?_
 go_wp2_with fail
 refine (done1_calls _ _ _ _ _ _ _ _ _ _).mono ?_
 rintro e w2 ⟨rfl, hb⟩
 have s2 := hb.size
 have HK2 := Lib.hid (HK1.out.below hb)
 have HZ := Lib.hid (HZ.out.below hb)
 have K3 := Lib.hid (K2.out.trans (hb.mono K2.out.size))
 have D2 := (hb.block w.heap.size (by have := S0.out; omega)).trans D1.out
 clear hb
 have q : ∀ i v, (#[.slice none 0 0, .slice none 0 0, .int .i64 0, .int .i64 0, .int .i64 0, .int .i64 0, .slice none 0 0, .slice none 0 0, .slice none 0 0] : Array Value)[i]? = some v → w2.cell? ⟨w.heap.size, i, none⟩ = some v := fun i v h => by simp only [World.cell?, D2]; exact h
 have q0 := q 0 _ rfl
 have q1 := q 1 _ rfl
 have q2 := q 2 _ rfl
 have q3 := q 3 _ rfl
 have q4 := q 4 _ rfl
 have q5 := q 5 _ rfl
 have q6 := q 6 _ rfl
 have q7 := q 7 _ rfl
 have q8 := q 8 _ rfl
 have qf : ∀ i, w2.frozen? ⟨w.heap.size, i, none⟩ = false := fun i => by simp [World.frozen?, D2]
 clear q D2
 go_wp2_with fail
 refine sched_on HK2.out ?_
 repeat (refine sched_take (v := ?_) (by simp only [opT, opS, opZ]; rfl) (Or.inl ⟨by rfl, fun W hW => ?_⟩) HK2.out ?_; rotate_left; (have hc := fun b o hn hb => hW.cell b o hn hb; clear hW; go_simp; with_reducible rfl); simp only [Act.put, putT, putZ, putS])
 refine sched_step (by simp only [opT, opS, opZ]; rfl) ?_
 go_wp2_with fail
 refine sched_on (by repeat (first | (with_reducible exact HK2.out) | refine Kept.setCell ?_ (.inr (by simp)) _)) ?_
 refine sched_done ?_
 clear HK HK1 HK2
 go_wp2
 refine bodyPost_ret (v := .agg #[.slice A3 L3 c3, .slice A4 L4 c4, .int .i64 z.nn, .int .i64 z.ne, .int .i64 st, .int .i64 0, .slice none 0 0, .slice none 0 0, .slice none 0 0]) (by simp [results, Tryz.results92, go_sem, q0, q1, q2, q3, q4, q5, q6, q7, q8]; try rfl) rfl ?_
 rw [HR.out]
 have hdr : W0.drew.heap.size = w.heap.size + 1 := by have := S0.out; simp; omega
 refine ⟨_, _, rfl, Gr.mono (S := fun k => W0.drew.heap.size ≤ k) (HZ.out.move fun k hk hl => ?_) (fun k hk _ => by omega), ?_⟩
 ·
  have hn : k ≠ w.heap.size := by omega
  repeat rw [Below.heap_setCell _ _ _ k hn]
 ·
  have := K3.out
  repeat (first | with_reducible exact this | refine Below.setCell ?_ (by simp) _)
set_option maxRecDepth 100000 in
set_option maxHeartbeats 4000000 in
theorem chgDel_calls (w : World) (B : Nat) (S : Nat → Prop) (c : CfgD) (g : GraphD) (vn ve : Value) (o : OpD) (h : Cap B S c g vn ve o w) (hs : Rdy c g) : Calls Tryz.prog 94 #[.pointer (some ⟨B + 3, 0, none⟩), .pointer (some ⟨B + 1, 0, none⟩), .pointer (some ⟨B + 2, 0, none⟩)] w (DonePost w (delOf g o.a o.p).1 (delOf g o.a o.p).2 0) := by
 obtain ⟨⟨A1, c1, rfl⟩, ⟨A2, c2, rfl⟩⟩ := h.hg.slices
 have CW := Lib.hid h
 have HS := Lib.hid hs
 clear h hs
 go_enter Tryz.func94, Tryz.ntmps94
 go_wp2
 obtain ⟨W0, hW⟩ : ∃ W0, W0 = w.alloc (.cells #[.slice none 0 0, .slice none 0 0, .int .i64 0, .int .i64 0, .int .i64 0, .int .i64 0, .slice none 0 0, .slice none 0 0, .slice none 0 0] 115) := ⟨_, rfl⟩
 have K0 := Lib.hid (show Below w.heap.size w W0 by rw [hW]; exact (Below.refl _ w).alloc (Nat.le_refl _) _)
 have s0 : W0.heap.size = w.heap.size + 1 := by rw [hW]; simp
 have D0 := Lib.hid (show W0.heap[w.heap.size]? = some (.cells #[.slice none 0 0, .slice none 0 0, .int .i64 0, .int .i64 0, .int .i64 0, .int .i64 0, .slice none 0 0, .slice none 0 0, .slice none 0 0] 115 (0, 0)) by rw [hW]; exact heap_alloc_new w _)
 have C0 := Lib.hid (CW.out.below K0.out)
 have bl := CW.out.hl
 rw [← hW]
 clear hW
 refine wp_region_schedK (fun k => k ≠ w.heap.size) [(0, true), (1, true), (2, true), (3, true), (4, true), (5, true), (6, false), (7, true), (8, true), (9, false), (10, false)] (by kernel_rfl) (by kernel_rfl) (fun hS => ?_)
 have HK := Lib.hid hS
 clear hS
 have g1 : B < W0.heap.size := by omega
 have g2 : B + 1 < W0.heap.size := by omega
 have g3 : B + 2 < W0.heap.size := by omega
 have g4 : B + 3 < W0.heap.size := by omega
 have g5 : B + 4 < W0.heap.size := by omega
 have n1 : ¬ B = w.heap.size := by omega
 have n2 : ¬ B + 1 = w.heap.size := by omega
 have n3 : ¬ B + 2 = w.heap.size := by omega
 have n4 : ¬ B + 3 = w.heap.size := by omega
 have n5 : ¬ B + 4 = w.heap.size := by omega
 have S0 := Lib.hid s0
 clear s0
 obtain ⟨x0, x1, x2, x3, xf⟩ := C0.out.bg
 obtain ⟨⟨d0, d1, d2, d3, d4⟩, ⟨o0, o1, o2, o3, o4⟩, f1, f2⟩ := C0.out.cells
 have K1 := Lib.hid K0.out.drew
 have C1 := Lib.hid (CW.out.below K1.out)
 generalize hr : delOf g o.a o.p = r
 have HR := Lib.hid hr
 clear hr
 obtain ⟨z, st⟩ := r
 repeat (refine sched_take (v := ?_) (by simp only [opT, opS, opZ]; rfl) (Or.inl ⟨by rfl, fun W hW => ?_⟩) HK.out ?_; rotate_left; (have hc := fun b o hn hb => hW.cell b o hn hb; clear hW; go_simp; with_reducible rfl); simp only [Act.put, putT, putZ, putS])
 refine sched_step (by simp only [opT, opS, opZ]; rfl) ?_
 go_wp2_with fail
 refine (del_calls _ _ g _ _ o.a o.p C1.out.hg HS.out.small HS.out.hr HS.out.hp).mono ?_
 rw [HR.out]
 rintro e w1 ⟨zn, ze, rfl, hgz, hb⟩
 replace hgz : Gr w1 (fun k => W0.drew.heap.size ≤ k) z zn ze := hgz
 obtain ⟨⟨A3, L3, c3, rfl⟩, A4, L4, c4, rfl⟩ := hgz.sl3
 have s1 := hb.size
 have HK1 := Lib.hid (HK.out.below hb)
 have HZ := Lib.hid hgz
 have K2 := Lib.hid (K1.out.trans (hb.mono K1.out.size))
 have D1 := Lib.hid ((hb.block w.heap.size (by have := S0.out; simp; omega)).trans D0.out)
 clear hb hgz x0 x1 x2 x3 xf d0 d1 d2 d3 d4 o0 o1 o2 o3 o4 f1 f2
 simp only [World.size_drew] at s1
 go_wp2_with fail
 refine sched_on HK1.out ?_
 repeat (refine sched_take (v := ?_) (by simp only [opT, opS, opZ]; rfl) (Or.inl ⟨by rfl, fun W hW => ?_⟩) HK1.out ?_; rotate_left; (have hc := fun b o hn hb => hW.cell b o hn hb; clear hW; go_simp; with_reducible rfl); simp only [Act.put, putT, putZ, putS])
 refine sched_step (by simp only [opT, opS, opZ]; rfl) ?_
 go_wp2_with fail
 refine (done1_calls _ _ _ _ _ _ _ _ _ _).mono ?_
 rintro e w2 ⟨rfl, hb⟩
 have s2 := hb.size
 have HK2 := Lib.hid (HK1.out.below hb)
 have HZ := Lib.hid (HZ.out.below hb)
 have K3 := Lib.hid (K2.out.trans (hb.mono K2.out.size))
 have D2 := (hb.block w.heap.size (by have := S0.out; omega)).trans D1.out
 clear hb
 have q : ∀ i v, (#[.slice none 0 0, .slice none 0 0, .int .i64 0, .int .i64 0, .int .i64 0, .int .i64 0, .slice none 0 0, .slice none 0 0, .slice none 0 0] : Array Value)[i]? = some v → w2.cell? ⟨w.heap.size, i, none⟩ = some v := fun i v h => by simp only [World.cell?, D2]; exact h
 have q0 := q 0 _ rfl
 have q1 := q 1 _ rfl
 have q2 := q 2 _ rfl
 have q3 := q 3 _ rfl
 have q4 := q 4 _ rfl
 have q5 := q 5 _ rfl
 have q6 := q 6 _ rfl
 have q7 := q 7 _ rfl
 have q8 := q 8 _ rfl
 have qf : ∀ i, w2.frozen? ⟨w.heap.size, i, none⟩ = false := fun i => by simp [World.frozen?, D2]
 clear q D2
 go_wp2_with fail
 refine sched_on HK2.out ?_
 repeat (refine sched_take (v := ?_) (by simp only [opT, opS, opZ]; rfl) (Or.inl ⟨by rfl, fun W hW => ?_⟩) HK2.out ?_; rotate_left; (have hc := fun b o hn hb => hW.cell b o hn hb; clear hW; go_simp; with_reducible rfl); simp only [Act.put, putT, putZ, putS])
 refine sched_step (by simp only [opT, opS, opZ]; rfl) ?_
 go_wp2_with fail
 refine sched_on (by repeat (first | (with_reducible exact HK2.out) | refine Kept.setCell ?_ (.inr (by simp)) _)) ?_
 refine sched_done ?_
 clear HK HK1 HK2
 go_wp2
 refine bodyPost_ret (v := .agg #[.slice A3 L3 c3, .slice A4 L4 c4, .int .i64 z.nn, .int .i64 z.ne, .int .i64 st, .int .i64 0, .slice none 0 0, .slice none 0 0, .slice none 0 0]) (by simp [results, Tryz.results94, go_sem, q0, q1, q2, q3, q4, q5, q6, q7, q8]; try rfl) rfl ?_
 rw [HR.out]
 have hdr : W0.drew.heap.size = w.heap.size + 1 := by have := S0.out; simp; omega
 refine ⟨_, _, rfl, Gr.mono (S := fun k => W0.drew.heap.size ≤ k) (HZ.out.move fun k hk hl => ?_) (fun k hk _ => by omega), ?_⟩
 ·
  have hn : k ≠ w.heap.size := by omega
  repeat rw [Below.heap_setCell _ _ _ k hn]
 ·
  have := K3.out
  repeat (first | with_reducible exact this | refine Below.setCell ?_ (by simp) _)
set_option maxRecDepth 100000 in
set_option maxHeartbeats 4000000 in
theorem chgDrop_calls (w : World) (B : Nat) (S : Nat → Prop) (c : CfgD) (g : GraphD) (vn ve : Value) (o : OpD) (h : Cap B S c g vn ve o w) (hs : Rdy c g) : Calls Tryz.prog 96 #[.pointer (some ⟨B + 3, 0, none⟩), .pointer (some ⟨B + 1, 0, none⟩), .pointer (some ⟨B + 2, 0, none⟩)] w (DonePost w (dropOf g o.a).1 (dropOf g o.a).2 0) := by
 obtain ⟨⟨A1, c1, rfl⟩, ⟨A2, c2, rfl⟩⟩ := h.hg.slices
 have CW := Lib.hid h
 have HS := Lib.hid hs
 clear h hs
 go_enter Tryz.func96, Tryz.ntmps96
 go_wp2
 obtain ⟨W0, hW⟩ : ∃ W0, W0 = w.alloc (.cells #[.slice none 0 0, .slice none 0 0, .int .i64 0, .int .i64 0, .int .i64 0, .int .i64 0, .slice none 0 0, .slice none 0 0, .slice none 0 0] 115) := ⟨_, rfl⟩
 have K0 := Lib.hid (show Below w.heap.size w W0 by rw [hW]; exact (Below.refl _ w).alloc (Nat.le_refl _) _)
 have s0 : W0.heap.size = w.heap.size + 1 := by rw [hW]; simp
 have D0 := Lib.hid (show W0.heap[w.heap.size]? = some (.cells #[.slice none 0 0, .slice none 0 0, .int .i64 0, .int .i64 0, .int .i64 0, .int .i64 0, .slice none 0 0, .slice none 0 0, .slice none 0 0] 115 (0, 0)) by rw [hW]; exact heap_alloc_new w _)
 have C0 := Lib.hid (CW.out.below K0.out)
 have bl := CW.out.hl
 rw [← hW]
 clear hW
 refine wp_region_schedK (fun k => k ≠ w.heap.size) [(0, true), (1, true), (2, true), (3, true), (4, false), (5, true), (6, true), (7, false), (8, false)] (by kernel_rfl) (by kernel_rfl) (fun hS => ?_)
 have HK := Lib.hid hS
 clear hS
 have g1 : B < W0.heap.size := by omega
 have g2 : B + 1 < W0.heap.size := by omega
 have g3 : B + 2 < W0.heap.size := by omega
 have g4 : B + 3 < W0.heap.size := by omega
 have g5 : B + 4 < W0.heap.size := by omega
 have n1 : ¬ B = w.heap.size := by omega
 have n2 : ¬ B + 1 = w.heap.size := by omega
 have n3 : ¬ B + 2 = w.heap.size := by omega
 have n4 : ¬ B + 3 = w.heap.size := by omega
 have n5 : ¬ B + 4 = w.heap.size := by omega
 have S0 := Lib.hid s0
 clear s0
 obtain ⟨x0, x1, x2, x3, xf⟩ := C0.out.bg
 obtain ⟨⟨d0, d1, d2, d3, d4⟩, ⟨o0, o1, o2, o3, o4⟩, f1, f2⟩ := C0.out.cells
 have K1 := Lib.hid K0.out.drew
 have C1 := Lib.hid (CW.out.below K1.out)
 generalize hr : dropOf g o.a = r
 have HR := Lib.hid hr
 clear hr
 obtain ⟨z, st⟩ := r
 repeat (refine sched_take (v := ?_) (by simp only [opT, opS, opZ]; rfl) (Or.inl ⟨by rfl, fun W hW => ?_⟩) HK.out ?_; rotate_left; (have hc := fun b o hn hb => hW.cell b o hn hb; clear hW; go_simp; with_reducible rfl); simp only [Act.put, putT, putZ, putS])
 refine sched_step (by simp only [opT, opS, opZ]; rfl) ?_
 go_wp2_with fail
 refine (drop_calls _ _ g _ _ o.a C1.out.hg HS.out.small).mono ?_
 rw [HR.out]
 rintro e w1 ⟨zn, ze, rfl, hgz, hb⟩
 replace hgz : Gr w1 (fun k => W0.drew.heap.size ≤ k) z zn ze := hgz
 obtain ⟨⟨A3, L3, c3, rfl⟩, A4, L4, c4, rfl⟩ := hgz.sl3
 have s1 := hb.size
 have HK1 := Lib.hid (HK.out.below hb)
 have HZ := Lib.hid hgz
 have K2 := Lib.hid (K1.out.trans (hb.mono K1.out.size))
 have D1 := Lib.hid ((hb.block w.heap.size (by have := S0.out; simp; omega)).trans D0.out)
 clear hb hgz x0 x1 x2 x3 xf d0 d1 d2 d3 d4 o0 o1 o2 o3 o4 f1 f2
 simp only [World.size_drew] at s1
 go_wp2_with fail
 refine sched_on HK1.out ?_
 repeat (refine sched_take (v := ?_) (by simp only [opT, opS, opZ]; rfl) (Or.inl ⟨by rfl, fun W hW => ?_⟩) HK1.out ?_; rotate_left; (have hc := fun b o hn hb => hW.cell b o hn hb; clear hW; go_simp; with_reducible rfl); simp only [Act.put, putT, putZ, putS])
 refine sched_step (by simp only [opT, opS, opZ]; rfl) ?_
 go_wp2_with fail
 refine (done1_calls _ _ _ _ _ _ _ _ _ _).mono ?_
 rintro e w2 ⟨rfl, hb⟩
 have s2 := hb.size
 have HK2 := Lib.hid (HK1.out.below hb)
 have HZ := Lib.hid (HZ.out.below hb)
 have K3 := Lib.hid (K2.out.trans (hb.mono K2.out.size))
 have D2 := (hb.block w.heap.size (by have := S0.out; omega)).trans D1.out
 clear hb
 have q : ∀ i v, (#[.slice none 0 0, .slice none 0 0, .int .i64 0, .int .i64 0, .int .i64 0, .int .i64 0, .slice none 0 0, .slice none 0 0, .slice none 0 0] : Array Value)[i]? = some v → w2.cell? ⟨w.heap.size, i, none⟩ = some v := fun i v h => by simp only [World.cell?, D2]; exact h
 have q0 := q 0 _ rfl
 have q1 := q 1 _ rfl
 have q2 := q 2 _ rfl
 have q3 := q 3 _ rfl
 have q4 := q 4 _ rfl
 have q5 := q 5 _ rfl
 have q6 := q 6 _ rfl
 have q7 := q 7 _ rfl
 have q8 := q 8 _ rfl
 have qf : ∀ i, w2.frozen? ⟨w.heap.size, i, none⟩ = false := fun i => by simp [World.frozen?, D2]
 clear q D2
 go_wp2_with fail
 refine sched_on HK2.out ?_
 repeat (refine sched_take (v := ?_) (by simp only [opT, opS, opZ]; rfl) (Or.inl ⟨by rfl, fun W hW => ?_⟩) HK2.out ?_; rotate_left; (have hc := fun b o hn hb => hW.cell b o hn hb; clear hW; go_simp; with_reducible rfl); simp only [Act.put, putT, putZ, putS])
 refine sched_step (by simp only [opT, opS, opZ]; rfl) ?_
 go_wp2_with fail
 refine sched_on (by repeat (first | (with_reducible exact HK2.out) | refine Kept.setCell ?_ (.inr (by simp)) _)) ?_
 refine sched_done ?_
 clear HK HK1 HK2
 go_wp2
 refine bodyPost_ret (v := .agg #[.slice A3 L3 c3, .slice A4 L4 c4, .int .i64 z.nn, .int .i64 z.ne, .int .i64 st, .int .i64 0, .slice none 0 0, .slice none 0 0, .slice none 0 0]) (by simp [results, Tryz.results96, go_sem, q0, q1, q2, q3, q4, q5, q6, q7, q8]; try rfl) rfl ?_
 rw [HR.out]
 have hdr : W0.drew.heap.size = w.heap.size + 1 := by have := S0.out; simp; omega
 refine ⟨_, _, rfl, Gr.mono (S := fun k => W0.drew.heap.size ≤ k) (HZ.out.move fun k hk hl => ?_) (fun k hk _ => by omega), ?_⟩
 ·
  have hn : k ≠ w.heap.size := by omega
  repeat rw [Below.heap_setCell _ _ _ k hn]
 ·
  have := K3.out
  repeat (first | with_reducible exact this | refine Below.setCell ?_ (by simp) _)
set_option maxRecDepth 100000 in
set_option maxHeartbeats 4000000 in
theorem chgFuse_calls (w : World) (B : Nat) (S : Nat → Prop) (c : CfgD) (g : GraphD) (vn ve : Value) (o : OpD) (h : Cap B S c g vn ve o w) (hs : Rdy c g) : Calls Tryz.prog 98 #[.pointer (some ⟨B + 3, 0, none⟩), .pointer (some ⟨B + 1, 0, none⟩), .pointer (some ⟨B + 2, 0, none⟩)] w (DonePost w (fuseOf g o.a o.b).1 (fuseOf g o.a o.b).2 0) := by
 obtain ⟨⟨A1, c1, rfl⟩, ⟨A2, c2, rfl⟩⟩ := h.hg.slices
 have CW := Lib.hid h
 have HS := Lib.hid hs
 clear h hs
 go_enter Tryz.func98, Tryz.ntmps98
 go_wp2
 obtain ⟨W0, hW⟩ : ∃ W0, W0 = w.alloc (.cells #[.slice none 0 0, .slice none 0 0, .int .i64 0, .int .i64 0, .int .i64 0, .int .i64 0, .slice none 0 0, .slice none 0 0, .slice none 0 0] 115) := ⟨_, rfl⟩
 have K0 := Lib.hid (show Below w.heap.size w W0 by rw [hW]; exact (Below.refl _ w).alloc (Nat.le_refl _) _)
 have s0 : W0.heap.size = w.heap.size + 1 := by rw [hW]; simp
 have D0 := Lib.hid (show W0.heap[w.heap.size]? = some (.cells #[.slice none 0 0, .slice none 0 0, .int .i64 0, .int .i64 0, .int .i64 0, .int .i64 0, .slice none 0 0, .slice none 0 0, .slice none 0 0] 115 (0, 0)) by rw [hW]; exact heap_alloc_new w _)
 have C0 := Lib.hid (CW.out.below K0.out)
 have bl := CW.out.hl
 rw [← hW]
 clear hW
 refine wp_region_schedK (fun k => k ≠ w.heap.size) [(0, true), (1, true), (2, true), (3, true), (4, true), (5, true), (6, false), (7, true), (8, true), (9, false), (10, false)] (by kernel_rfl) (by kernel_rfl) (fun hS => ?_)
 have HK := Lib.hid hS
 clear hS
 have g1 : B < W0.heap.size := by omega
 have g2 : B + 1 < W0.heap.size := by omega
 have g3 : B + 2 < W0.heap.size := by omega
 have g4 : B + 3 < W0.heap.size := by omega
 have g5 : B + 4 < W0.heap.size := by omega
 have n1 : ¬ B = w.heap.size := by omega
 have n2 : ¬ B + 1 = w.heap.size := by omega
 have n3 : ¬ B + 2 = w.heap.size := by omega
 have n4 : ¬ B + 3 = w.heap.size := by omega
 have n5 : ¬ B + 4 = w.heap.size := by omega
 have S0 := Lib.hid s0
 clear s0
 obtain ⟨x0, x1, x2, x3, xf⟩ := C0.out.bg
 obtain ⟨⟨d0, d1, d2, d3, d4⟩, ⟨o0, o1, o2, o3, o4⟩, f1, f2⟩ := C0.out.cells
 have K1 := Lib.hid K0.out.drew
 have C1 := Lib.hid (CW.out.below K1.out)
 generalize hr : fuseOf g o.a o.b = r
 have HR := Lib.hid hr
 clear hr
 obtain ⟨z, st⟩ := r
 repeat (refine sched_take (v := ?_) (by simp only [opT, opS, opZ]; rfl) (Or.inl ⟨by rfl, fun W hW => ?_⟩) HK.out ?_; rotate_left; (have hc := fun b o hn hb => hW.cell b o hn hb; clear hW; go_simp; with_reducible rfl); simp only [Act.put, putT, putZ, putS])
 refine sched_step (by simp only [opT, opS, opZ]; rfl) ?_
 go_wp2_with fail
 refine (fuse_calls _ _ g _ _ o.a o.b C1.out.hg HS.out.small HS.out.hr HS.out.hp).mono ?_
 rw [HR.out]
 rintro e w1 ⟨zn, ze, rfl, hgz, hb⟩
 replace hgz : Gr w1 (fun k => W0.drew.heap.size ≤ k) z zn ze := hgz
 obtain ⟨⟨A3, L3, c3, rfl⟩, A4, L4, c4, rfl⟩ := hgz.sl3
 have s1 := hb.size
 have HK1 := Lib.hid (HK.out.below hb)
 have HZ := Lib.hid hgz
 have K2 := Lib.hid (K1.out.trans (hb.mono K1.out.size))
 have D1 := Lib.hid ((hb.block w.heap.size (by have := S0.out; simp; omega)).trans D0.out)
 clear hb hgz x0 x1 x2 x3 xf d0 d1 d2 d3 d4 o0 o1 o2 o3 o4 f1 f2
 simp only [World.size_drew] at s1
 go_wp2_with fail
 refine sched_on HK1.out ?_
 repeat (refine sched_take (v := ?_) (by simp only [opT, opS, opZ]; rfl) (Or.inl ⟨by rfl, fun W hW => ?_⟩) HK1.out ?_; rotate_left; (have hc := fun b o hn hb => hW.cell b o hn hb; clear hW; go_simp; with_reducible rfl); simp only [Act.put, putT, putZ, putS])
 refine sched_step (by simp only [opT, opS, opZ]; rfl) ?_
 go_wp2_with fail
 refine (done1_calls _ _ _ _ _ _ _ _ _ _).mono ?_
 rintro e w2 ⟨rfl, hb⟩
 have s2 := hb.size
 have HK2 := Lib.hid (HK1.out.below hb)
 have HZ := Lib.hid (HZ.out.below hb)
 have K3 := Lib.hid (K2.out.trans (hb.mono K2.out.size))
 have D2 := (hb.block w.heap.size (by have := S0.out; omega)).trans D1.out
 clear hb
 have q : ∀ i v, (#[.slice none 0 0, .slice none 0 0, .int .i64 0, .int .i64 0, .int .i64 0, .int .i64 0, .slice none 0 0, .slice none 0 0, .slice none 0 0] : Array Value)[i]? = some v → w2.cell? ⟨w.heap.size, i, none⟩ = some v := fun i v h => by simp only [World.cell?, D2]; exact h
 have q0 := q 0 _ rfl
 have q1 := q 1 _ rfl
 have q2 := q 2 _ rfl
 have q3 := q 3 _ rfl
 have q4 := q 4 _ rfl
 have q5 := q 5 _ rfl
 have q6 := q 6 _ rfl
 have q7 := q 7 _ rfl
 have q8 := q 8 _ rfl
 have qf : ∀ i, w2.frozen? ⟨w.heap.size, i, none⟩ = false := fun i => by simp [World.frozen?, D2]
 clear q D2
 go_wp2_with fail
 refine sched_on HK2.out ?_
 repeat (refine sched_take (v := ?_) (by simp only [opT, opS, opZ]; rfl) (Or.inl ⟨by rfl, fun W hW => ?_⟩) HK2.out ?_; rotate_left; (have hc := fun b o hn hb => hW.cell b o hn hb; clear hW; go_simp; with_reducible rfl); simp only [Act.put, putT, putZ, putS])
 refine sched_step (by simp only [opT, opS, opZ]; rfl) ?_
 go_wp2_with fail
 refine sched_on (by repeat (first | (with_reducible exact HK2.out) | refine Kept.setCell ?_ (.inr (by simp)) _)) ?_
 refine sched_done ?_
 clear HK HK1 HK2
 go_wp2
 refine bodyPost_ret (v := .agg #[.slice A3 L3 c3, .slice A4 L4 c4, .int .i64 z.nn, .int .i64 z.ne, .int .i64 st, .int .i64 0, .slice none 0 0, .slice none 0 0, .slice none 0 0]) (by simp [results, Tryz.results98, go_sem, q0, q1, q2, q3, q4, q5, q6, q7, q8]; try rfl) rfl ?_
 rw [HR.out]
 have hdr : W0.drew.heap.size = w.heap.size + 1 := by have := S0.out; simp; omega
 refine ⟨_, _, rfl, Gr.mono (S := fun k => W0.drew.heap.size ≤ k) (HZ.out.move fun k hk hl => ?_) (fun k hk _ => by omega), ?_⟩
 ·
  have hn : k ≠ w.heap.size := by omega
  repeat rw [Below.heap_setCell _ _ _ k hn]
 ·
  have := K3.out
  repeat (first | with_reducible exact this | refine Below.setCell ?_ (by simp) _)

end Go.Proofs.YtpehmmdbjakkpaaGreat
