/- tendrilref13.Order. -/
import Derived.Test.YtpehmmdbjakkpaaGreatRefTM
namespace Go.Proofs.YtpehmmdbjakkpaaGreat
open Go.RowKit Go.Shelf
set_option linter.unusedSimpArgs false
set_option linter.unusedVariables false
theorem Row.headR {α : Type} {t : Ty α} {w : World} {S : Nat → Prop} {A : Option Addr} {n c : Nat} {xs : List α} (h : Row t w S (.slice A n c) xs) {k : Nat} (hk : k ≤ n) : Row t w S (.slice A k c) (xs.take k) := by
 obtain ⟨A', cc, hv, h1, h2, h3, h4⟩ := h
 injection hv with e1 e2 e3
 subst e1 e2 e3
 have hl : (xs.take k).length = k := by rw [List.length_take]; omega
 refine ⟨_, c, by rw [hl], by rw [hl]; omega, h2, h3, ?_⟩
 rcases h4 with rfl | ⟨b', off', he, hb, hlt, hel⟩
 ·
  exact .inl (by simp)
 ·
  refine .inr ⟨_, _, he, hb, hlt, fun j x hj => hel j x ?_⟩
  rw [List.getElem?_take] at hj
  split at hj
  ·
   exact hj
  ·
   cases hj
theorem next_out {sd : SD} {q : PathD} {x : Int} (h : x < 0 ∨ (sd.calls.length : Int) ≤ x) : (nextF sd q x).2 = false := by
 unfold nextF
 by_cases h0 : x < 0
 ·
  rw [if_pos h0]
 ·
  rw [if_neg h0, List.getElem?_eq_none (by omega)]
theorem lastB_at {sd : SD} {order : List Int} {k : Nat} {c : CallD} (h : order[order.length - 1]? = some (k : Int)) (hc : sd.calls[k]? = some c) : lastB sd order = decide (0 ≤ c.to) := by
 unfold lastB
 rw [List.getLast?_eq_getElem?, h]
 simp only
 rw [toOf_at hc]
/-- What stands when k of the order's calls are placed. -/
structure LO (B bP : Nat) (X : World) (sd : SD) (order : List Int) (k : Nat) (q : PathD) (A1 : Option Addr) (n1 k1 : Nat) (A2 : Option Addr) (n2 k2 : Nat) (W : World) : Prop where
 le : k ≤ order.length
 wk : walkF sd PathD.start (order.take k) = some q
 bx : Box4 W bP (.slice A1 n1 k1) (.slice A2 n2 k2) (.int .i64 q.g.nn) (.int .i64 q.g.ne)
 lt : bP < W.heap.size
 gr : Gr W (fun j => B ≤ j ∧ j ≠ bP) q.g (.slice A1 n1 k1) (.slice A2 n2 k2)
 be : Below B X W
set_option maxRecDepth 100000 in
set_option maxHeartbeats 16000000 in
theorem rorder_calls (w : World) (S' : Nat → Prop) (c : CfgD) (v : Value) (l : List EvD) (u : Value) (order : List Int) (h : Row tEv w (fun _ => True) v l) (ho : Row tInt w S' u order) (hlen : l.length ≤ 1000000) (hok : ∀ x ∈ l, okI x.th) (hol : order.length ≤ 1000) : Calls Tryz.prog 8 #[c.val, v, u] w (OrderPost w (orderD c l order)) := by
 obtain ⟨A, cA, rfl⟩ := h.slice
 obtain ⟨AO, cO, rfl⟩ := ho.slice
 obtain ⟨_, hcap, hcap2, _⟩ := ho.n_eq
 unfold maxLen at hcap2
 obtain ⟨n, hn⟩ : ∃ n, n = order.length := ⟨_, rfl⟩
 rw [← hn] at hol ho hcap ⊢
 have HN := Lib.hid hn
 have H := Lib.hid h
 have HO := Lib.hid ho
 have HOK := Lib.hid hok
 clear h ho hn hok
 unfold CfgD.val
 obtain ⟨W0, hW⟩ : ∃ W0, W0 = (w.alloc (.cells #[.int .i64 c.nodes, .int .i64 c.edges, .int .i64 c.props, .int .i64 c.ids, .int .i64 c.eids] 23)).alloc (.cells #[.slice none 0 0, .slice none 0 0, .int .i64 0, .int .i64 0] 31) := ⟨_, rfl⟩
 have hb0 : Below w.heap.size w W0 := by rw [hW]; exact (by repeat (first | (with_reducible exact Below.refl _ _) | (with_reducible exact Below.refl _ _) | (with_reducible refine Below.drew ?_) | (with_reducible refine Below.alloc ?_ (by simp; try omega) _) | (with_reducible refine Below.setCell ?_ (by simp; try omega) _)))
 have s0 : w.heap.size + 1 < W0.heap.size := by rw [hW]; simp
 have C0 := Lib.hid (show Box5 W0 w.heap.size _ _ _ _ _ from by rw [hW]; exact (Box5.made w 23 (.int .i64 c.nodes) (.int .i64 c.edges) (.int .i64 c.props) (.int .i64 c.ids) (.int .i64 c.eids)).keep (Below.heap_alloc _ _ _ (by simp)))
 have B0 := Lib.hid (show Box4 W0 (w.heap.size + 1) (.slice none 0 0) (.slice none 0 0) (.int .i64 0) (.int .i64 0) from by
  rw [hW]
  have := Box4.made (w.alloc (.cells #[.int .i64 c.nodes, .int .i64 c.edges, .int .i64 c.props, .int .i64 c.ids, .int .i64 c.eids] 23)) 31 (.slice none 0 0) (.slice none 0 0) (.int .i64 0) (.int .i64 0)
  rw [World.size_alloc] at this
  exact this)
 have K0 := Lib.hid hb0
 clear hb0
 obtain ⟨c0, c1, c2, c3, c4, cf⟩ := C0.out
 have l0 : w.heap.size < W0.heap.size := by omega
 go_enter Tryz.func8, Tryz.ntmps8
 go_wp2_with fail
 rw [← hW]
 clear hW
 refine (rcalls_calls W0 c _ l (H.out.below K0.out) hlen HOK.out).mono ?_
 rintro e w1 hp
 unfold RCallsPost at hp
 clear c0 c1 c2 c3 c4 cf
 cases hst : startD c l with
 | none =>
  rw [hst] at hp
  obtain ⟨rfl, hb⟩ := hp
  have HS := Lib.hid (orderD_none (order := order) hst)
  have B1' := B0.out.keep (hb.block _ s0)
  have l1 : w.heap.size + 1 < w1.heap.size := by have := hb.size; omega
  have K1 := Lib.hid (K0.out.trans (hb.mono K0.out.size))
  clear hb hst
  obtain ⟨b0, b1, b2, b3, bf⟩ := B1'
  go_wp2
  refine bodyPost_ret (v := .tuple #[.agg #[.slice none 0 0, .slice none 0 0, .int .i64 0, .int .i64 0], .int .i64 1]) (by simp [results, Tryz.results8, go_sem, b0, b1, b2, b3]; try rfl) rfl ?_
  rw [HS.out]
  exact OrderPost.bad (set4_below K1.out (by omega) _ _ _ _)
 | some sd =>
  rw [hst] at hp
  obtain ⟨vA, rfl, hA, hb⟩ := hp
  have HS := Lib.hid hst
  obtain ⟨hc0, hc2, hc3⟩ := startD_ok hst
  subst hc0
  have HC := Lib.hid hc2
  have HL3 := Lib.hid hc3
  have HU := Lib.hid (start_uniq hst)
  have HND := Lib.hid (start_need hst)
  obtain ⟨AA, cAA, rfl⟩ := hA.slice
  obtain ⟨N, hNN⟩ : ∃ N, N = sd.calls.length := ⟨_, rfl⟩
  rw [← hNN] at hA ⊢
  have HNN := Lib.hid hNN
  have hN10 : N ≤ 10 := by omega
  have HA := Lib.hid hA
  have B1' := Lib.hid (B0.out.keep (hb.block _ s0))
  have C1 := Lib.hid (C0.out.keep (hb.block _ l0))
  have K1 := Lib.hid (K0.out.trans (hb.mono K0.out.size))
  have s1 := hb.size
  clear hb hst hA hc2 hc3 B0 C0 hNN
  go_wp2_with fail
  refine (rnew_calls w1).mono ?_
  rintro e w2 ⟨rfl, hb⟩
  obtain ⟨V, hV⟩ : ∃ V, V = w2.alloc (.cells #[.slice none 0 0, .slice none 0 0, .int .i64 1, .int .i64 1] 31) := ⟨_, rfl⟩
  have hbV : Below w2.heap.size w2 V := by rw [hV]; exact (Below.refl _ w2).alloc (Nat.le_refl _) _
  have P0 := Lib.hid (show Box4 V w2.heap.size _ _ _ _ from by rw [hV]; exact Box4.made w2 31 (.slice none 0 0) (.slice none 0 0) (.int .i64 1) (.int .i64 1))
  have sV : w2.heap.size < V.heap.size := by rw [hV]; simp
  have BE := Lib.hid (show Below w1.heap.size w1 V from hb.trans (hbV.mono hb.size))
  have s2 := hb.size
  have sK := K1.out.size
  clear hb hbV
  go_wp2_with fail
  rw [← hV]
  clear hV
  have HOR := Lib.hid (HO.out.below K1.out)
  have l1 : w.heap.size + 1 < w1.heap.size := by omega
  have l1' : w.heap.size < w1.heap.size := by omega
  go_loopw [28] (fun i wr => ∃ (k : Nat) (q : PathD) (A1 : Option Addr) (n1 k1 : Nat) (A2 : Option Addr) (n2 k2 : Nat), i = .int .i64 (k : Int) ∧ Hid (LO w1.heap.size w2.heap.size w1 sd order k q A1 n1 k1 A2 n2 k2 wr)) (fun i _ => n - (intOf i).toNat)
  case atStart => exact ⟨0, PathD.start, none, 0, 0, none, 0, 0, rfl, Nat.zero_le _, rfl, P0.out, sV, Gr.zero _ _ _ _, BE.out⟩
  case round =>
   obtain ⟨k, q, A1, n1, k1, A2, n2, k2, rfl, hL⟩ := hrel
   obtain ⟨wa, rfl⟩ : ∃ wa, wa = wr := ⟨wr, rfl⟩
   have hk := hL.out.le
   rw [← HN.out] at hk
   have HQ := Lib.hid (walk_ord HC.out HL3.out hL.out.wk)
   have hqo : q.order = order.take k := walk_order _ _ _ hL.out.wk
   have HQO := Lib.hid hqo
   have hql := HQ.out.good.len
   obtain ⟨q0, q1, q2, q3, qf⟩ := hL.out.bx
   have ql := hL.out.lt
   have hwr := hL.out.be.size
   have C2 := Lib.hid (C1.out.keep (hL.out.be.block _ l1'))
   have B2 := Lib.hid (B1'.out.keep (hL.out.be.block _ l1))
   obtain ⟨c0, c1, c2, c3, c4, cf⟩ := C2.out
   obtain ⟨b0, b1, b2, b3, bf⟩ := B2.out
   have lw0 : w.heap.size < wa.heap.size := by omega
   have lw1 : w.heap.size + 1 < wa.heap.size := by omega
   clear hqo
   by_cases hlt : k < n
   ·
    obtain ⟨x, hx⟩ := getElem?_of_lt (show k < order.length by have := HN.out; omega)
    obtain ⟨b', off', rfl, _, hbl', y0⟩ := (HOR.out.below hL.out.be).atInt hx
    have HX := Lib.hid hx
    have hll : (k : Int) < (n : Int) := by omega
    clear hx
    by_cases hx0 : x < 0
    ·
     have HS2 := Lib.hid (orderD_stop HS.out (walk_stop HX.out hL.out.wk (next_out (.inl hx0))))
     go_wp2
     refine bodyPost_ret (v := .tuple #[.agg #[.slice none 0 0, .slice none 0 0, .int .i64 0, .int .i64 0], .int .i64 2]) (by simp [results, Tryz.results8, go_sem, b0, b1, b2, b3]; try rfl) rfl ?_
     rw [HS2.out]
     exact OrderPost.bad (set4_below (K1.out.trans (hL.out.be.mono K1.out.size)) (by omega) _ _ _ _)
    by_cases hxN : (N : Int) ≤ x
    ·
     have HS2 := Lib.hid (orderD_stop HS.out (walk_stop HX.out hL.out.wk (next_out (.inr (by rw [← HNN.out]; exact hxN)))))
     go_wp2
     refine bodyPost_ret (v := .tuple #[.agg #[.slice none 0 0, .slice none 0 0, .int .i64 0, .int .i64 0], .int .i64 2]) (by simp [results, Tryz.results8, go_sem, b0, b1, b2, b3]; try rfl) rfl ?_
     rw [HS2.out]
     exact OrderPost.bad (set4_below (K1.out.trans (hL.out.be.mono K1.out.size)) (by omega) _ _ _ _)
    obtain ⟨m, rfl⟩ : ∃ m : Nat, x = (m : Int) := ⟨x.toNat, (Int.toNat_of_nonneg (by omega)).symm⟩
    have hmN : m < N := by omega
    clear b0 b1 b2 b3 bf
    go_wp2_with fail
    refine wp_region_tr (fun _ => True) (.take 0 (.take 1 (.take 2 (.take 3 (.take 4 (.take 5 (.take 6 (.two 7 (.take 8 (.take 9 (.take 10 (.step 11 (.step 12 (.take 13 .nil)))))) 11 (.step 7 (.take 8 (.take 9 (.take 10 (.step 12 (.take 13 .nil)))))))))))))) (by kernel_rfl) (by kernel_rfl) (fun hS => ?_)
    have HK0 := Lib.hid hS
    clear hS
    have KD := Lib.hid (Below.refl wa.heap.size wa).drew
    revert HK0 KD
    generalize wa.drew = Z0
    intro HK0 KD
    repeat (refine tr_take (v := ?_) (by simp only [opT, opS, opZ]; rfl) (Or.inl ⟨by rfl, fun W hW => ?_⟩) HK0.out ?_; rotate_left; (have hc := fun b o hb => hW.cell b o trivial hb; clear hW; go_simp; with_reducible rfl); simp only [Act.put, putT, putZ, putS])
    refine tr_take (v := .slice (some ⟨b', off', none⟩) k cO) (by simp only [opT, opS, opZ]; rfl) (Or.inl ⟨by rfl, fun W hW => ?_⟩) HK0.out ?_
    ·
     clear hW
     go_simp
     try (intro h; exfalso; omega)
    simp only [Act.put, putT, putZ, putS]
    repeat (refine tr_take (v := ?_) (by simp only [opT, opS, opZ]; rfl) (Or.inl ⟨by rfl, fun W hW => ?_⟩) HK0.out ?_; rotate_left; (have hc := fun b o hb => hW.cell b o trivial hb; clear hW; go_simp; with_reducible rfl); simp only [Act.put, putT, putZ, putS])
    have KE0 := Lib.hid (hL.out.be.trans (KD.out.mono hwr))
    have GQ0 := Lib.hid (hL.out.gr.below KD.out)
    have s3 := KD.out.size
    have HWK := Lib.hid hL.out.wk
    have BX0 := Lib.hid (hL.out.bx.keep (KD.out.block _ ql))
    clear KD hL q0 q1 q2 q3 qf y0 c0 c1 c2 c3 c4 cf C2 B2
    refine tr_two (by simp only [opT, opS, opZ]; rfl) ?_ (by simp only [opT, opS, opZ]; rfl) (Hid.out ?_)
    ·
     skip
     go_wp2_with fail
     refine (step_calls Z0 _ _ _ sd q m _ _ _ _ (HA.out.below KE0.out) GQ0.out (show Row tInt Z0 S' (.slice (some ⟨b', off', none⟩) k cO) q.order from by rw [HQO.out]; exact (HOR.out.below KE0.out).headR hk) HU.out HQ.out.good.inr (HQ.out.good.rdy HC.out HL3.out) (by have := HNN.out; omega) (by have := HL3.out; omega) (by have := HL3.out; omega)).mono ?_
     rintro e Z1 ⟨A6, n6, c6, A7, n7, c7, gn, ge, rfl, hst, hb⟩
     have HST := Lib.hid hst
     have HK1 := Lib.hid (HK0.out.below hb)
     have KE1 := Lib.hid (KE0.out.trans (hb.mono KE0.out.size))
     have BX1 := Lib.hid (BX0.out.keep (hb.block _ (by omega)))
     have s4 := hb.size
     clear hb hst HK0 GQ0 BX0
     go_wp2_with fail
     refine tr_on HK1.out ?_
     repeat (refine tr_take (v := ?_) (by simp only [opT, opS, opZ]; rfl) (Or.inl ⟨by rfl, fun W hW => ?_⟩) HK1.out ?_; rotate_left; (skip; clear hW; go_simp; with_reducible rfl); simp only [Act.put, putT, putZ, putS])
     refine tr_step (by simp only [opT, opS, opZ]; rfl) ?_
     obtain ⟨Z2, hZ2⟩ : ∃ V, V = Z1.alloc (.cells #[.slice none 0 0, .slice none 0 0, .int .i64 0, .int .i64 0] 31) := ⟨_, rfl⟩
     have hb : Below Z1.heap.size Z1 Z2 := by rw [hZ2]; exact (Below.refl _ Z1).alloc (Nat.le_refl _) _
     have GB := Lib.hid (show Box4 Z2 Z1.heap.size _ _ _ _ from by rw [hZ2]; exact Box4.made Z1 31 (.slice none 0 0) (.slice none 0 0) (.int .i64 0) (.int .i64 0))
     have sZ2 : Z1.heap.size < Z2.heap.size := by rw [hZ2]; simp
     have HK2 := Lib.hid (HK1.out.below hb)
     have KE2 := Lib.hid (KE1.out.trans (hb.mono KE1.out.size))
     have BX2 := Lib.hid (BX1.out.keep (hb.block _ (by omega)))
     have GS := Lib.hid (show (nextF sd q (m : Int)).2 = true → gn = (nextF sd q (m : Int)).1.g.nn ∧ ge = (nextF sd q (m : Int)).1.g.ne ∧ Gr Z2 (fun j => wa.heap.size ≤ j ∧ j ≠ Z1.heap.size) (nextF sd q (m : Int)).1.g (.slice A6 n6 c6) (.slice A7 n7 c7) from fun h => by
      obtain ⟨h1, h2, h3⟩ := HST.out h
      exact ⟨h1, h2, (h3.mono (S' := fun j => wa.heap.size ≤ j ∧ j ≠ Z1.heap.size) (fun j hj hl => by (try simp only at hj ⊢); omega)).below hb⟩)
     go_wp2_with fail
     rw [← hZ2]
     clear hZ2 hb
     obtain ⟨bT, hbT⟩ : ∃ b, b = Z1.heap.size := ⟨_, rfl⟩
     rw [← hbT] at GB GS
     simp only [← hbT]
     have lT : bT < Z2.heap.size := by omega
     have gT : wa.heap.size ≤ bT := by omega
     have sZ : wa.heap.size ≤ Z2.heap.size := by omega
     clear hbT
     refine tr_on HK2.out ?_
     refine tr_step (by simp only [opT, opS, opZ]; rfl) ?_
     obtain ⟨h0, h1, h2, h3, hf⟩ := GB.out
     obtain ⟨Y, hY⟩ : ∃ Y, Y = set4 Z2 bT (.slice A6 n6 c6) (.slice A7 n7 c7) (.int .i64 gn) (.int .i64 ge) := ⟨_, rfl⟩
     have HKY := Lib.hid (show Kept wa (fun _ => True) Y from by rw [hY]; exact HK2.out.set4 (.inl (by omega)) _ _ _ _)
     have zY : Z2.heap.size ≤ Y.heap.size := by rw [hY, set4_size]; exact Nat.le_refl _
     have GY := Lib.hid (show Box4 Y bT _ _ _ _ from by rw [hY]; exact GB.out.set (.slice A6 n6 c6) (.slice A7 n7 c7) (.int .i64 gn) (.int .i64 ge))
     have KY := Lib.hid (show Below w1.heap.size w1 Y from by rw [hY]; exact set4_below KE2.out (by omega) _ _ _ _)
     have BXY := Lib.hid (BX2.out.keep (W' := Y) (by rw [hY]; exact set4_heap _ _ _ _ _ _ _ (by omega)))
     have GSY := Lib.hid (show (nextF sd q (m : Int)).2 = true → gn = (nextF sd q (m : Int)).1.g.nn ∧ ge = (nextF sd q (m : Int)).1.g.ne ∧ Gr Y (fun j => wa.heap.size ≤ j) (nextF sd q (m : Int)).1.g (.slice A6 n6 c6) (.slice A7 n7 c7) from fun h => by
      obtain ⟨h1, h2, h3⟩ := GS.out h
      exact ⟨h1, h2, (h3.move fun j hj _ => by rw [hY]; exact set4_heap _ _ _ _ _ _ _ hj.2).mono fun j hj _ => hj.1⟩)
     unfold set4 at hY
     go_wp2_with fail
     rw [← hY]
     clear hY h0 h1 h2 h3 hf HK2 KE2 BX2 GB GS
     refine tr_on HKY.out ?_
     repeat (refine tr_take (v := ?_) (by simp only [opT, opS, opZ]; rfl) (Or.inl ⟨by rfl, fun W hW => ?_⟩) HKY.out ?_; rotate_left; (skip; clear hW; go_simp; with_reducible rfl); simp only [Act.put, putT, putZ, putS])
     refine tr_done ?_
     obtain ⟨r, hr⟩ : ∃ r, r = nextF sd q (m : Int) := ⟨_, rfl⟩
     rw [← hr] at GSY ⊢
     have HRR := Lib.hid hr
     obtain ⟨q', ok⟩ := r
     simp only at GSY ⊢
     clear hr HST
     cases ok with
     | false =>
      have HS2 := Lib.hid (orderD_stop HS.out (walk_stop HX.out HWK.out (by rw [← HRR.out])))
      have B3 := Lib.hid (B1'.out.keep (KY.out.block _ l1))
      obtain ⟨b0, b1, b2, b3, bf⟩ := B3.out
      have lY : w.heap.size + 1 < Y.heap.size := by omega
      go_wp2
      refine bodyPost_ret (v := .tuple #[.agg #[.slice none 0 0, .slice none 0 0, .int .i64 0, .int .i64 0], .int .i64 2]) (by simp [results, Tryz.results8, go_sem, b0, b1, b2, b3]; try rfl) rfl ?_
      rw [HS2.out]
      exact OrderPost.bad (set4_below (K1.out.trans (KY.out.mono K1.out.size)) (by omega) _ _ _ _)
     | true =>
      obtain ⟨rfl, rfl, hg⟩ := GSY.out rfl
      have HGG := Lib.hid hg
      have HW := Lib.hid (walk_take HX.out HWK.out (by rw [← HRR.out]))
      obtain ⟨h0, h1, h2, h3, hf⟩ := GY.out
      obtain ⟨q0, q1, q2, q3, qf⟩ := BXY.out
      have lY1 : bT < Y.heap.size := by omega
      have lY2 : w2.heap.size < Y.heap.size := by omega
      clear hg
      go_wp2
      go_roundw
      case rel =>
       refine ⟨k + 1, q', _, _, _, _, _, _, by first | (go_num; done) | (go_num; omega), by have := HN.out; omega, by rw [HW.out, ← HRR.out], BXY.out.set _ _ _ _, Nat.lt_of_lt_of_eq lY2 (set4_size Y w2.heap.size (.slice A6 n6 c6) (.slice A7 n7 c7) (.int .i64 q'.g.nn) (.int .i64 q'.g.ne)).symm, ?_, set4_below KY.out (by omega) _ _ _ _⟩
       exact (HGG.out.move fun j hj _ => set4_heap _ _ _ _ _ _ _ (by (try simp only at hj); omega)).mono fun j hj _ => by (try simp only at hj ⊢); omega
      case measure => simp [intOf]; omega
    ·
     refine Lib.hid ?_
     obtain ⟨Z1, hZ1⟩ : ∃ V, V = Z0.alloc (.cells #[.slice none 0 0, .slice none 0 0, .int .i64 0, .int .i64 0] 31) := ⟨_, rfl⟩
     have hb : Below Z0.heap.size Z0 Z1 := by rw [hZ1]; exact (Below.refl _ Z0).alloc (Nat.le_refl _) _
     have GB0 := Lib.hid (show Box4 Z1 Z0.heap.size _ _ _ _ from by rw [hZ1]; exact Box4.made Z0 31 (.slice none 0 0) (.slice none 0 0) (.int .i64 0) (.int .i64 0))
     have sZ1 : Z0.heap.size < Z1.heap.size := by rw [hZ1]; simp
     have HK1 := Lib.hid (HK0.out.below hb)
     have KE1 := Lib.hid (KE0.out.trans (hb.mono KE0.out.size))
     have BX1 := Lib.hid (BX0.out.keep (hb.block _ (by omega)))
     have GQ1 := Lib.hid (GQ0.out.below hb)
     go_wp2_with fail
     rw [← hZ1]
     clear hZ1 hb HK0 BX0 GQ0
     refine tr_on HK1.out ?_
     refine tr_step (by simp only [opT, opS, opZ]; rfl) ?_
     go_wp2_with fail
     refine (step_calls Z1 _ _ _ sd q m _ _ _ _ (HA.out.below KE1.out) GQ1.out (show Row tInt Z1 S' (.slice (some ⟨b', off', none⟩) k cO) q.order from by rw [HQO.out]; exact (HOR.out.below KE1.out).headR hk) HU.out HQ.out.good.inr (HQ.out.good.rdy HC.out HL3.out) (by have := HNN.out; omega) (by have := HL3.out; omega) (by have := HL3.out; omega)).mono ?_
     rintro e Z2 ⟨A6, n6, c6, A7, n7, c7, gn, ge, rfl, hst, hb⟩
     have HST := Lib.hid hst
     have HK2 := Lib.hid (HK1.out.below hb)
     have KE2 := Lib.hid (KE1.out.trans (hb.mono KE1.out.size))
     have BX2 := Lib.hid (BX1.out.keep (hb.block _ (by omega)))
     have GB := Lib.hid (GB0.out.keep (hb.block _ (by omega)))
     have s4 := hb.size
     have GS := Lib.hid (show (nextF sd q (m : Int)).2 = true → gn = (nextF sd q (m : Int)).1.g.nn ∧ ge = (nextF sd q (m : Int)).1.g.ne ∧ Gr Z2 (fun j => wa.heap.size ≤ j ∧ j ≠ Z0.heap.size) (nextF sd q (m : Int)).1.g (.slice A6 n6 c6) (.slice A7 n7 c7) from fun h => by
      obtain ⟨h1, h2, h3⟩ := HST.out h
      exact ⟨h1, h2, h3.mono (fun j hj _ => by (try simp only at hj ⊢); omega)⟩)
     clear hb hst HK1 GQ1 BX1 GB0
     go_wp2_with fail
     refine tr_on HK2.out ?_
     repeat (refine tr_take (v := ?_) (by simp only [opT, opS, opZ]; rfl) (Or.inl ⟨by rfl, fun W hW => ?_⟩) HK2.out ?_; rotate_left; (skip; clear hW; go_simp; with_reducible rfl); simp only [Act.put, putT, putZ, putS])
     obtain ⟨bT, hbT⟩ : ∃ b, b = Z0.heap.size := ⟨_, rfl⟩
     rw [← hbT] at GB GS
     simp only [← hbT]
     have lT : bT < Z2.heap.size := by omega
     have gT : wa.heap.size ≤ bT := by omega
     have sZ : wa.heap.size ≤ Z2.heap.size := by omega
     clear hbT
     refine tr_step (by simp only [opT, opS, opZ]; rfl) ?_
     obtain ⟨h0, h1, h2, h3, hf⟩ := GB.out
     obtain ⟨Y, hY⟩ : ∃ Y, Y = set4 Z2 bT (.slice A6 n6 c6) (.slice A7 n7 c7) (.int .i64 gn) (.int .i64 ge) := ⟨_, rfl⟩
     have HKY := Lib.hid (show Kept wa (fun _ => True) Y from by rw [hY]; exact HK2.out.set4 (.inl (by omega)) _ _ _ _)
     have zY : Z2.heap.size ≤ Y.heap.size := by rw [hY, set4_size]; exact Nat.le_refl _
     have GY := Lib.hid (show Box4 Y bT _ _ _ _ from by rw [hY]; exact GB.out.set (.slice A6 n6 c6) (.slice A7 n7 c7) (.int .i64 gn) (.int .i64 ge))
     have KY := Lib.hid (show Below w1.heap.size w1 Y from by rw [hY]; exact set4_below KE2.out (by omega) _ _ _ _)
     have BXY := Lib.hid (BX2.out.keep (W' := Y) (by rw [hY]; exact set4_heap _ _ _ _ _ _ _ (by omega)))
     have GSY := Lib.hid (show (nextF sd q (m : Int)).2 = true → gn = (nextF sd q (m : Int)).1.g.nn ∧ ge = (nextF sd q (m : Int)).1.g.ne ∧ Gr Y (fun j => wa.heap.size ≤ j) (nextF sd q (m : Int)).1.g (.slice A6 n6 c6) (.slice A7 n7 c7) from fun h => by
      obtain ⟨h1, h2, h3⟩ := GS.out h
      exact ⟨h1, h2, (h3.move fun j hj _ => by rw [hY]; exact set4_heap _ _ _ _ _ _ _ hj.2).mono fun j hj _ => hj.1⟩)
     unfold set4 at hY
     go_wp2_with fail
     rw [← hY]
     clear hY h0 h1 h2 h3 hf HK2 KE2 BX2 GB GS
     refine tr_on HKY.out ?_
     repeat (refine tr_take (v := ?_) (by simp only [opT, opS, opZ]; rfl) (Or.inl ⟨by rfl, fun W hW => ?_⟩) HKY.out ?_; rotate_left; (skip; clear hW; go_simp; with_reducible rfl); simp only [Act.put, putT, putZ, putS])
     refine tr_done ?_
     obtain ⟨r, hr⟩ : ∃ r, r = nextF sd q (m : Int) := ⟨_, rfl⟩
     rw [← hr] at GSY ⊢
     have HRR := Lib.hid hr
     obtain ⟨q', ok⟩ := r
     simp only at GSY ⊢
     clear hr HST
     cases ok with
     | false =>
      have HS2 := Lib.hid (orderD_stop HS.out (walk_stop HX.out HWK.out (by rw [← HRR.out])))
      have B3 := Lib.hid (B1'.out.keep (KY.out.block _ l1))
      obtain ⟨b0, b1, b2, b3, bf⟩ := B3.out
      have lY : w.heap.size + 1 < Y.heap.size := by omega
      go_wp2
      refine bodyPost_ret (v := .tuple #[.agg #[.slice none 0 0, .slice none 0 0, .int .i64 0, .int .i64 0], .int .i64 2]) (by simp [results, Tryz.results8, go_sem, b0, b1, b2, b3]; try rfl) rfl ?_
      rw [HS2.out]
      exact OrderPost.bad (set4_below (K1.out.trans (KY.out.mono K1.out.size)) (by omega) _ _ _ _)
     | true =>
      obtain ⟨rfl, rfl, hg⟩ := GSY.out rfl
      have HGG := Lib.hid hg
      have HW := Lib.hid (walk_take HX.out HWK.out (by rw [← HRR.out]))
      obtain ⟨h0, h1, h2, h3, hf⟩ := GY.out
      obtain ⟨q0, q1, q2, q3, qf⟩ := BXY.out
      have lY1 : bT < Y.heap.size := by omega
      have lY2 : w2.heap.size < Y.heap.size := by omega
      clear hg
      go_wp2
      go_roundw
      case rel =>
       refine ⟨k + 1, q', _, _, _, _, _, _, by first | (go_num; done) | (go_num; omega), by have := HN.out; omega, by rw [HW.out, ← HRR.out], BXY.out.set _ _ _ _, Nat.lt_of_lt_of_eq lY2 (set4_size Y w2.heap.size (.slice A6 n6 c6) (.slice A7 n7 c7) (.int .i64 q'.g.nn) (.int .i64 q'.g.ne)).symm, ?_, set4_below KY.out (by omega) _ _ _ _⟩
       exact (HGG.out.move fun j hj _ => set4_heap _ _ _ _ _ _ _ (by (try simp only at hj); omega)).mono fun j hj _ => by (try simp only at hj ⊢); omega
      case measure => simp [intOf]; omega
   ·
    obtain rfl : k = n := by omega
    have HW := Lib.hid (show walkF sd PathD.start order = some q from by have := hL.out.wk; rw [HN.out, List.take_length] at this; exact this)
    have hqo2 : q.order = order := by rw [HQO.out, HN.out, List.take_length]
    have he := orderD_end HS.out HW.out
    rw [hqo2] at he
    have HE := Lib.hid he
    have hwh := whole_is HQ.out HND.out
    have hml := many_le HQ.out HND.out
    have hlz := left_zero HQ.out HND.out
    rw [hqo2] at hwh hlz
    have HIN := Lib.hid (show InR sd order from hqo2 ▸ HQ.out.good.inr)
    have hpos : 0 ≤ leftI sd order := by omega
    obtain ⟨t, ht⟩ : ∃ t, t = leftI sd order := ⟨_, rfl⟩
    have HT := Lib.hid ht
    rw [← ht] at hwh hpos
    have HWH := Lib.hid hwh
    have ht10 : t ≤ 10 := by
     have h1 := pendOf_nonneg sd.calls
     have h2 := HL3.out
     unfold leftI at ht
     omega
    have HOR2 := Lib.hid (HOR.out.below hL.out.be)
    have HA2 := Lib.hid (HA.out.below hL.out.be)
    have GQ := Lib.hid hL.out.gr
    have HLB := Lib.hid hL.out.be
    clear hwh hlz hml ht hqo2 he b0 b1 b2 b3 bf q0 q1 q2 q3 qf
    go_wp2_with fail
    refine (left_calls wa _ _ sd _ _ order HA2.out HOR2.out HIN.out (by have := HL3.out; omega) (by have := HN.out; omega)).mono ?_
    rintro e w3 ⟨rfl, hb⟩
    rw [← HT.out]
    have KU := Lib.hid (HLB.out.trans (hb.mono hwr))
    have B3 := Lib.hid (B2.out.keep (hb.block _ lw1))
    have G3 := Lib.hid (GQ.out.below hb)
    have X3 := Lib.hid (hL.out.bx.keep (hb.block _ ql))
    have HOR3 := Lib.hid (HOR2.out.below hb)
    have HA3 := Lib.hid (HA2.out.below hb)
    have s3 := hb.size
    have lw3 : w.heap.size + 1 < w3.heap.size := by omega
    have lx3 : w2.heap.size < w3.heap.size := by omega
    clear hb B2 GQ HOR2 HA2 c0 c1 c2 c3 c4 cf
    obtain ⟨b0, b1, b2, b3, bf⟩ := B3.out
    obtain ⟨q0, q1, q2, q3, qf⟩ := X3.out
    by_cases ht0 : 0 < t
    ·
     have HS2 := Lib.hid (HE.out.trans (if_neg (by rw [HWH.out]; simp; omega)))
     go_wp2
     refine bodyPost_ret (v := .tuple #[.agg #[.slice none 0 0, .slice none 0 0, .int .i64 0, .int .i64 0], .int .i64 2]) (by simp [results, Tryz.results8, go_sem, b0, b1, b2, b3]; try rfl) rfl ?_
     rw [HS2.out]
     exact OrderPost.bad (set4_below (K1.out.trans (KU.out.mono K1.out.size)) (by omega) _ _ _ _)
    have htz : t = 0 := by omega
    subst htz
    by_cases hn0 : k = 0
    ·
     subst hn0
     have ho0 : order = [] := List.length_eq_zero_iff.1 HN.out.symm
     have HS2 := Lib.hid (HE.out.trans (if_pos (by rw [HWH.out, ho0]; rfl)))
     go_wp2
     refine bodyPost_ret (v := .tuple #[.agg #[.slice A1 n1 k1, .slice A2 n2 k2, .int .i64 q.g.nn, .int .i64 q.g.ne], .int .i64 0]) (by simp [results, Tryz.results8, go_sem, b0, b1, b2, b3]; try rfl) rfl ?_
     rw [HS2.out]
     exact ⟨_, _, rfl, (G3.out.move fun j hj _ => set4_heap _ _ _ _ _ _ _ (by (try simp only at hj); omega)).mono fun j hj _ => by (try simp only at hj ⊢); omega, set4_below (K1.out.trans (KU.out.mono K1.out.size)) (by omega) _ _ _ _⟩
    obtain ⟨z, hz⟩ := getElem?_of_lt (show k - 1 < order.length by have := HN.out; omega)
    obtain ⟨hz0, hz1⟩ := HIN.out z (List.mem_of_getElem? hz)
    obtain ⟨m, rfl⟩ : ∃ m : Nat, z = (m : Int) := ⟨z.toNat, (Int.toNat_of_nonneg hz0).symm⟩
    obtain ⟨d, hd⟩ := getElem?_of_lt (show m < sd.calls.length by omega)
    have hlast : lastB sd order = decide (0 ≤ d.to) := lastB_at (by rw [← HN.out]; exact hz) hd
    obtain ⟨b', off', rfl, _, hbl', y0⟩ := HOR3.out.atInt hz
    obtain ⟨b4, off4, a1, d1, a2, d2, a3, d3, rfl, hbl4, _, x0, x1, x2, x3, x4, x5, x6, x7, x8, x9, x10, x11, x12⟩ := HA3.out.atCallF hd
    have hmN : m < N := by have := HNN.out; omega
    have hmN' : (m : Int) < (N : Int) := by omega
    have hkp : 0 < (k : Int) := by omega
    have HLA := Lib.hid hlast
    obtain ⟨k', rfl⟩ : ∃ k', k = k' + 1 := ⟨k - 1, by omega⟩
    simp only [Nat.add_sub_cancel] at y0
    clear hz hd hlast hz0 hz1
    by_cases hto : d.to < 0
    ·
     have HS2 := Lib.hid (HE.out.trans (if_neg (by rw [HWH.out, HLA.out]; simp; omega)))
     go_wp2
     refine bodyPost_ret (v := .tuple #[.agg #[.slice none 0 0, .slice none 0 0, .int .i64 0, .int .i64 0], .int .i64 2]) (by simp [results, Tryz.results8, go_sem, b0, b1, b2, b3]; try rfl) rfl ?_
     rw [HS2.out]
     exact OrderPost.bad (set4_below (K1.out.trans (KU.out.mono K1.out.size)) (by omega) _ _ _ _)
    ·
     have hto' : 0 ≤ d.to := by omega
     have HS2 := Lib.hid (HE.out.trans (if_pos (by rw [HWH.out, HLA.out]; simp [hto'])))
     go_wp2
     refine bodyPost_ret (v := .tuple #[.agg #[.slice A1 n1 k1, .slice A2 n2 k2, .int .i64 q.g.nn, .int .i64 q.g.ne], .int .i64 0]) (by simp [results, Tryz.results8, go_sem, b0, b1, b2, b3]; try rfl) rfl ?_
     rw [HS2.out]
     exact ⟨_, _, rfl, (G3.out.move fun j hj _ => set4_heap _ _ _ _ _ _ _ (by (try simp only at hj); omega)).mono fun j hj _ => by (try simp only at hj ⊢); omega, set4_below (K1.out.trans (KU.out.mono K1.out.size)) (by omega) _ _ _ _⟩



end Go.Proofs.YtpehmmdbjakkpaaGreat
