/- graph.Del. -/
import Derived.Test.YtpehmmdbjakkpaaSetG
import Derived.Test.YtpehmmdbjakkpaaDelP
import Derived.Test.YtpehmmdbjakkpaaCutG
namespace Go.Proofs.Ytpehmmdbjakkpaa
open Go.RowKit Go.Shelf
set_option linter.unusedSimpArgs false
set_option linter.unusedVariables false
set_option maxRecDepth 20000 in
set_option maxHeartbeats 8000000 in
theorem del_calls (w : World) (S : Nat → Prop) (g : GraphD) (vn ve : Value) (n k : Int) (h : Gr w S g vn ve) (hs : g.small) (hr : ∀ x ∈ g.nodes, Rises x.ps x.ps.length) (hp : ∀ x ∈ g.nodes, x.ps.length ≤ 100) : Calls Try.prog 41 #[.agg #[vn, ve, .int .i64 g.nn, .int .i64 g.ne], .int .i64 n, .int .i64 k] w (Ret2 w (delOf g n k)) := by
  obtain ⟨⟨A1, c1, rfl⟩, ⟨A2, c2, rfl⟩⟩ := h.slices
  have H := Lib.hid h
  have HS := Lib.hid hs
  have HRI := Lib.hid hr
  have HPL := Lib.hid hp
  have hs2 := hs.2.1
  have hs1 := hs.1
  clear h hs hr hp
  go_enter Try.func41, Try.ntmps41
  go_wp2_with fail
  obtain ⟨W0, hW⟩ : ∃ W0, W0 = ((w.alloc (.cells #[.slice A1 g.nodes.length c1, .slice A2 g.edges.length c2, .int .i64 g.nn, .int .i64 g.ne] 27)).alloc (.cells #[.slice none 0 0, .slice none 0 0, .int .i64 0, .int .i64 0] 27)) := ⟨_, rfl⟩
  have KW := Lib.hid (show Below w.heap.size w W0 by rw [hW]; exact ((Below.refl w.heap.size w).alloc (Nat.le_refl _) _).alloc (by simp) _)
  have BX := Lib.hid (show Box4 W0 w.heap.size (.slice A1 g.nodes.length c1) (.slice A2 g.edges.length c2) (.int .i64 g.nn) (.int .i64 g.ne) by
    rw [hW]
    exact (Box4.made w 27 (.slice A1 g.nodes.length c1) (.slice A2 g.edges.length c2) (.int .i64 g.nn) (.int .i64 g.ne)).keep (by rw [Below.heap_alloc _ _ _ (by simp)]))
  have BR := Lib.hid (show Box4 W0 (w.heap.size + 1) (.slice none 0 0) (.slice none 0 0) (.int .i64 0) (.int .i64 0) by
    rw [hW]
    have := (Box4.made (w.alloc (.cells #[.slice A1 g.nodes.length c1, .slice A2 g.edges.length c2, .int .i64 g.nn, .int .i64 g.ne] 27)) 27 (.slice none 0 0) (.slice none 0 0) (.int .i64 0) (.int .i64 0))
    simp only [World.size_alloc] at this
    exact this)
  have s0 : W0.heap.size = w.heap.size + 1 + 1 := by rw [hW]; simp
  rw [← hW]
  clear hW
  refine (at_calls W0 S g _ _ n (H.out.below KW.out) hs1).mono ?_
  rintro e wA ⟨rfl, hbA⟩
  have sA := hbA.size
  have KA := Lib.hid (KW.out.trans (hbA.mono KW.out.size))
  have BXA := Lib.hid (BX.out.keep (hbA.block _ (by omega)))
  have BRA := Lib.hid (BR.out.keep (hbA.block _ (by omega)))
  clear hbA BX BR KW
  have ga : w.heap.size < wA.heap.size := by omega
  have gb : w.heap.size + 1 < wA.heap.size := by omega
  obtain ⟨x0, x1, x2, x3, xf⟩ := BXA.out
  by_cases ha : atOf g.nodes n < 0
  · have HE := Lib.hid (show delOf g n k = (GraphD.zero, 2) by unfold delOf; rw [getOf_none ha]; rfl)
    have hd : decide (atOf g.nodes n < 0) = true := decide_eq_true ha
    clear ha
    generalize atOf g.nodes n = p at *
    obtain ⟨y0, y1, y2, y3, yf⟩ := BRA.out
    go_wp2
    refine bodyPost_ret (v := .tuple #[.agg #[.slice none 0 0, .slice none 0 0, .int .i64 0, .int .i64 0], .int .i64 2]) (by simp [results, Try.results41, go_sem, y0, y1, y2, y3]; try rfl) rfl ?_
    rw [HE.out]
    exact ⟨_, _, rfl, Gr.zero _ _ _ _, set4_below KA.out (by omega) _ _ _ _⟩
  obtain ⟨i, x, hi, hx, hid⟩ := atOf_at ha
  have HE1 := Lib.hid (show delOf g n k = if hasP x.ps k then (⟨g.nodes.set i ⟨x.id, delP x.ps k⟩, g.edges, g.nn, g.ne⟩, 0) else (GraphD.zero, 2) by unfold delOf; rw [getOf_at2 hi hx, setN_at hi hx hid])
  rw [hi]
  have hil : i < g.nodes.length := (List.getElem?_eq_some_iff.1 hx).1
  have HX := Lib.hid hx
  have hpx := HPL.out x (List.mem_of_getElem? hx)
  have HRX := Lib.hid (HRI.out x (List.mem_of_getElem? hx))
  clear ha hi hx hid
  obtain ⟨bn, on, ap, dp, rfl, _, hbl, hrp, z0, z1⟩ := (H.out.below KA.out).atN HX.out
  have HRP := Lib.hid hrp
  clear hrp
  go_wp2_with fail
  refine (find_calls _ _ _ x.ps k HRP.out HRX.out (by omega)).mono ?_
  rintro e w2 ⟨m, bb, rfl, hf, hb⟩
  have s2 := hb.size
  have K2 := Lib.hid (KA.out.trans (hb.mono KA.out.size))
  have BX2 := Lib.hid (BXA.out.keep (hb.block _ ga))
  have BR2 := Lib.hid (BRA.out.keep (hb.block _ gb))
  have HFA := Lib.hid hf
  have HAS := Lib.hid (findAt_has hf HRX.out)
  clear hb hf x0 x1 x2 x3 xf z0 z1 BXA BRA
  have ga : w.heap.size < w2.heap.size := by omega
  have gb : w.heap.size + 1 < w2.heap.size := by omega
  cases bb
  case false =>
    have HE := Lib.hid (show delOf g n k = (GraphD.zero, 2) by rw [HE1.out, ← HAS.out]; rfl)
    obtain ⟨y0, y1, y2, y3, yf⟩ := BR2.out
    go_wp2
    refine bodyPost_ret (v := .tuple #[.agg #[.slice none 0 0, .slice none 0 0, .int .i64 0, .int .i64 0], .int .i64 2]) (by simp [results, Try.results41, go_sem, y0, y1, y2, y3]; try rfl) rfl ?_
    rw [HE.out]
    exact ⟨_, _, rfl, Gr.zero _ _ _ _, set4_below K2.out (by omega) _ _ _ _⟩
  case true =>
  have HE := Lib.hid (show delOf g n k = (⟨g.nodes.set i ⟨x.id, delP x.ps k⟩, g.edges, g.nn, g.ne⟩, 0) by rw [HE1.out, ← HAS.out]; rfl)
  have hml : m < x.ps.length := by
    obtain ⟨p, hp, _⟩ := HFA.out.is.1 rfl
    exact (List.getElem?_eq_some_iff.1 hp).1
  have HDP := Lib.hid (show x.ps.take m ++ x.ps.drop (m + 1) = delP x.ps k from del_erase HFA.out HRX.out)
  obtain ⟨x0, x1, x2, x3, xf⟩ := BX2.out
  go_wp2_with fail
  refine (own_calls w2 S g _ _ (H.out.below K2.out) HS.out).mono ?_
  rintro e w1 ⟨vn1, ve1, nvs, rfl, ho1, hb1⟩
  obtain ⟨⟨B1, d1, rfl⟩, ⟨B2, d2, rfl⟩⟩ := ho1.gr.slices
  have s1 := hb1.size
  have K1 := Lib.hid (K2.out.trans (hb1.mono K2.out.size))
  have BX1 := Lib.hid (BX2.out.keep (hb1.block _ ga))
  have BR1 := Lib.hid (BR2.out.keep (hb1.block _ gb))
  have hnl : nvs.length = g.nodes.length := ho1.len
  obtain ⟨gN, hB1, hgB, hgl⟩ := ho1.nodes.head (by omega)
  subst hB1
  obtain ⟨vi, hvi⟩ := getElem?_of_lt (show i < nvs.length by omega)
  have HVI := Lib.hid hvi
  have HO1 := Lib.hid ho1
  clear hb1 BX2 BR2 x0 x1 x2 x3 xf
  obtain ⟨W3, hW3⟩ : ∃ W3, W3 = set4 w1 w.heap.size (.slice (some ⟨gN, 0, none⟩) g.nodes.length d1) (.slice B2 g.edges.length d2) (.int .i64 g.nn) (.int .i64 g.ne) := ⟨_, rfl⟩
  have HO3 := Lib.hid (show OwnG W3 w2.heap.size g (.slice (some ⟨gN, 0, none⟩) g.nodes.length d1) (.slice B2 g.edges.length d2) nvs from HO1.out.move fun k hk _ => by rw [hW3]; exact set4_heap _ _ _ _ _ _ k (by omega))
  have BX3 := Lib.hid (show Box4 W3 w.heap.size (.slice (some ⟨gN, 0, none⟩) g.nodes.length d1) (.slice B2 g.edges.length d2) (.int .i64 g.nn) (.int .i64 g.ne) by rw [hW3]; exact BX1.out.set _ _ _ _)
  have BR3 := Lib.hid (show Box4 W3 (w.heap.size + 1) (.slice none 0 0) (.slice none 0 0) (.int .i64 0) (.int .i64 0) by rw [hW3]; exact BR1.out.other4 (by omega) _ _ _ _)
  have K3 := Lib.hid (show Below w.heap.size w W3 by rw [hW3]; exact set4_below K1.out (Nat.le_refl _) _ _ _ _)
  have s3 : W3.heap.size = w1.heap.size := by rw [hW3, set4_size]
  have HW3 := Lib.hid hW3
  clear hW3
  have hoi : Own tP 47 W3 (fun k => w2.heap.size ≤ k) (.slice vi.A vi.n vi.c) x.ps := (HO3.out.each i vi x hvi HX.out).2
  have hvn : vi.n = x.ps.length := hoi.n_eq
  obtain ⟨b', off', hA, _, _, _, y1⟩ := HO3.out.nodes.row.atNV hvi
  injection hA with hA
  injection hA with h1 h2
  subst h1 h2
  simp only [Nat.zero_add] at y1
  obtain ⟨gP, hgP, _, hgPl⟩ := hoi.head (by omega)
  obtain ⟨vc, hvc⟩ : ∃ c, c = vi.c := ⟨_, rfl⟩
  rw [hgP, hvn, ← hvc] at y1 hoi
  have HVS := Lib.hid (And.intro hgP (And.intro hvn hvc))
  have HOI := Lib.hid hoi
  have hgP2 : gP ≠ gN ∧ w2.heap.size ≤ gP ∧ gP < w1.heap.size := ⟨fun e => (HO3.out.np i vi gP hvi (by rw [hgP]; rfl)).1 (by rw [e]; rfl), HOI.out.1 gP rfl, by rw [← s3]; exact HOI.out.lt gP rfl⟩
  have hf0 := HO3.out.nodes.frozenC (i * 2 + 1)
  clear hvi hgP hvn hvc hoi ho1 hnl
  obtain ⟨x0, x1, x2, x3, xf⟩ := BX1.out
  have g1 : w.heap.size < w1.heap.size := by omega
  have g2 : ¬ w.heap.size = gN := by omega
  have g3 : ¬ gN = w.heap.size := by omega
  go_wp2_with fail
  have eW := HW3.out.symm
  unfold set4 at eW
  rw [eW]
  clear eW x0 x1 x2 x3 xf
  obtain ⟨x0, x1, x2, x3, xf⟩ := BX3.out
  have q1 : w.heap.size < W3.heap.size := by omega
  have q2 : gN < W3.heap.size := by omega
  have T1 := Lib.hid (show (Value.slice (some ⟨gP, 0, none⟩) x.ps.length vc).ownBlock ≠ some w.heap.size from fun e => by simp [Value.ownBlock] at e; omega)
  have T2 := Lib.hid (show (Value.slice (some ⟨gP, 0, none⟩) x.ps.length vc).ownBlock ≠ some gN from fun e => by simp [Value.ownBlock] at e; omega)
  refine wp_region_sched2 [(0, true), (1, true), (2, true), (3, true), (4, true), (5, true), (6, true), (7, true), (8, true), (9, true), (10, true), (11, true), (12, false), (13, false), (14, true)] 15 [] (Kept W3 (fun k => (Value.slice (some ⟨gP, 0, none⟩) x.ps.length vc).ownBlock ≠ some k)) (fun _ => True) (by kernel_rfl) (by kernel_rfl) (by kernel_rfl) ?_
  have HK := Lib.hid (Kept.refl W3 (fun k => (Value.slice (some ⟨gP, 0, none⟩) x.ps.length vc).ownBlock ≠ some k)).drew
  have hw1 : IntKind.i64.wrap ((m : Int) + 1) = (m : Int) + 1 := by rw [IntKind.wrap_i64]; omega
  repeat (refine sched2_take (v := ?_) (by simp only [List.getElem?_toArray, List.getElem?_cons_succ, List.getElem?_cons_zero]; rfl) (Or.inl ⟨by rfl, fun W hW => ?_⟩) HK.out ?_; rotate_left; (have hc1 := hW.cell w.heap.size 0 T1.out q1 ; have hc2 := hW.cell gN (i * 2 + 1) T2.out q2; clear hW; go_simp; with_reducible rfl); simp only [Act.put, List.setIfInBounds_toArray, List.set_cons_zero, List.set_cons_succ])
  refine sched2_step (by simp only [List.getElem?_toArray, List.getElem?_cons_succ, List.getElem?_cons_zero]; rfl) ?_
  go_wp2_with fail
  refine (deleteP_calls _ _ gP vc m x.ps.length x.ps (HOI.out.below (Below.refl W3.heap.size W3).drew) hml (by omega)).mono ?_
  rintro e w7 ⟨rfl, ho7, hg7⟩
  rw [HDP.out] at ho7
  have s7 := hg7.size
  simp only [World.size_drew] at s7
  have hg7' : W3.grownBy w7 (some gP) := ⟨hg7.os, hg7.tape, hg7.output, hg7.size, hg7.block⟩
  have HK7 := Lib.hid (HK.out.grown hg7 (fun k hk => .inr fun hT => hT hk))
  obtain ⟨L, hL⟩ : ∃ L, L = x.ps.length - 1 := ⟨_, rfl⟩
  rw [← hL] at ho7 ⊢
  have HN := Lib.hid (HO3.out.putPairs HVI.out HX.out (A' := some ⟨gP, 0, none⟩) (c' := vc) (n' := L) (by have h9 := ho7.n_eq; exact ho7) (by rw [HVS.out.1]; exact hg7') (.inl (by rw [HVS.out.1]; rfl)))
  have hk7 : ∀ k, k < w2.heap.size ∨ k = gN → w7.heap[k]? = W3.heap[k]? := fun k hk => hg7'.block k (by omega) (fun e => by injection e with e; omega)
  have BX7 := Lib.hid (BX3.out.keep (hk7 _ (.inl ga)))
  have BR7 := Lib.hid (BR3.out.keep (hk7 _ (.inl gb)))
  have y7 : w7.cell? ⟨gN, i * 2 + 1, none⟩ = some (.slice (some ⟨gP, 0, none⟩) x.ps.length vc) := (World.cell?_of_block (hk7 gN (.inr rfl))).trans y1
  have hf7 : w7.frozen? ⟨gN, i * 2 + 1, none⟩ = false := (World.frozen?_of_block (hk7 gN (.inr rfl))).trans hf0
  have HB8 := Lib.hid ((K3.out.grown hg7' (by omega) (fun k hk => by injection hk with hk; omega)).setCell (p := ⟨gN, i * 2 + 1, none⟩) (by simp only; omega) (.slice (some ⟨gP, 0, none⟩) L vc))
  have BX8 := Lib.hid (BX7.out.other (b' := gN) g2 (i * 2 + 1) (.slice (some ⟨gP, 0, none⟩) L vc))
  have BR8 := Lib.hid (BR7.out.other (b' := gN) (by omega) (i * 2 + 1) (.slice (some ⟨gP, 0, none⟩) L vc))
  have q7 : gN < w7.heap.size := by omega
  have s8 : (w7.setCell ⟨gN, i * 2 + 1, none⟩ (.slice (some ⟨gP, 0, none⟩) L vc)).heap.size = w7.heap.size := by simp
  have HL := Lib.hid hL
  clear ho7 hg7 hL hk7 y1 hf0 x0 x1 x2 x3 xf
  go_wp2_with fail
  refine sched2_on HK7.out ?_
  refine sched2_step (by simp only [List.getElem?_toArray, List.getElem?_cons_succ, List.getElem?_cons_zero]; rfl) ?_
  go_wp2_with fail
  refine sched2_on HK7.out ?_
  repeat (refine sched2_take (v := ?_) (by simp only [List.getElem?_toArray, List.getElem?_cons_succ, List.getElem?_cons_zero]; rfl) (Or.inl ⟨by rfl, fun W hW => ?_⟩) HK7.out ?_; rotate_left; (skip; clear hW; go_simp; with_reducible rfl); simp only [Act.put, List.setIfInBounds_toArray, List.set_cons_zero, List.set_cons_succ])
  refine sched2_go (by simp only [List.getElem?_toArray, List.getElem?_cons_succ, List.getElem?_cons_zero]; rfl) ?_
  go_wp2_with fail
  refine sched_on trivial ?_
  refine sched_done ?_
  clear y7 hf7 HK HK7
  generalize hw8 : w7.setCell ⟨gN, i * 2 + 1, none⟩ (.slice (some ⟨gP, 0, none⟩) L vc) = w8 at *
  clear hw8
  obtain ⟨x0, x1, x2, x3, xf⟩ := BX8.out
  obtain ⟨y0, y1, y2, y3, yf⟩ := BR8.out
  have q8 : w.heap.size < w8.heap.size := by omega
  have q9 : w.heap.size + 1 < w8.heap.size := by omega
  go_wp2
  refine bodyPost_ret (v := .tuple #[.agg #[.slice (some ⟨gN, 0, none⟩) g.nodes.length d1, .slice B2 g.edges.length d2, .int .i64 g.nn, .int .i64 g.ne], .int .i64 0]) (by simp [results, Try.results41, go_sem, y0, y1, y2, y3]; try rfl) rfl ?_
  rw [HE.out]
  have hSm : Same (fun k => w2.heap.size ≤ k) w8 (set4 w8 (w.heap.size + 1) (.slice (some ⟨gN, 0, none⟩) g.nodes.length d1) (.slice B2 g.edges.length d2) (.int .i64 g.nn) (.int .i64 g.ne)) := fun k hk hl => set4_heap _ _ _ _ _ _ k (by omega)
  exact ⟨_, _, rfl, (HN.out.gr.move hSm).mono (fun k hk _ => by omega), set4_below HB8.out (by omega) _ _ _ _⟩
end Go.Proofs.Ytpehmmdbjakkpaa
