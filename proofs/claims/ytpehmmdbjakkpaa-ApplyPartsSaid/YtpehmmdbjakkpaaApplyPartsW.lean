/- ApplyParts: operations, and others behind them, come to what those come to, done behind them. -/
import Derived.Test.YtpehmmdbjakkpaaApplyAllW
import Derived.Test.YtpehmmdbjakkpaaSameB
namespace Go.Proofs.Ytpehmmdbjakkpaa
open Go.RowKit Go.Shelf
set_option linter.unusedSimpArgs false
set_option linter.unusedVariables false
theorem elemOps : ElemOf Try.prog 65 73 tOp.sz 40 (.agg #[.int .i64 0, .int .i64 0, .int .i64 0, .int .i64 0, .int .i64 0]) := ⟨Try.underlying65, by kernel_rfl, rfl⟩
/-- What the loop leaves alone. -/
structure PL (B bG B2 B3 : Nat) (X : World) (v : Value) (W : World) : Prop where
  sm : ∀ j, j < B ∨ (B2 ≤ j ∧ j < B3) → W.heap[j]? = X.heap[j]?
  sz : B3 ≤ W.heap.size
  ow : ∀ k, v.ownBlock = some k → B ≤ k ∧ (k < B2 ∨ B3 ≤ k)
  o1 : B ≤ bG
  o2 : bG < B2
  o3 : B2 ≤ B3
section
variable {B bG B2 B3 : Nat} {X : World} {v : Value} {W W' : World}
theorem PL.below (h : PL B bG B2 B3 X v W) (hb : Below W.heap.size W W') : PL B bG B2 B3 X v W' := by
  have h1 := h.sz
  have h2 := h.o1
  have h3 := h.o2
  have h4 := h.o3
  exact ⟨fun j hj => (hb.block j (by omega)).trans (h.sm j hj), Nat.le_trans h1 hb.size, h.ow, h2, h3, h4⟩
theorem PL.setG (h : PL B bG B2 B3 X v W) (zn ze n e : Value) : PL B bG B2 B3 X v (set4 W bG zn ze n e) := by
  have h1 := h.sz
  have h2 := h.o1
  have h3 := h.o2
  have h4 := h.o3
  exact ⟨fun j hj => (set4_heap _ _ _ _ _ _ _ (by omega)).trans (h.sm j hj), by rw [set4_size]; exact h1, h.ow, h2, h3, h4⟩
theorem PL.app (h : PL B bG B2 B3 X v W) {v' : Value} (hg : W.grownBy W' v.ownBlock) (hv : v'.ownBlock = v.ownBlock ∨ v'.ownBlock = some (W.heap.size + 1)) : PL B bG B2 B3 X v' W' := by
  have h1 := h.sz
  have h2 := h.o1
  have h3 := h.o2
  have h4 := h.o3
  refine ⟨fun j hj => (hg.block j (by omega) (fun e => by have := h.ow j e.symm; omega)).trans (h.sm j hj), Nat.le_trans h1 hg.size, fun k hk => ?_, h2, h3, h4⟩
  rcases hv with e | e
  · rw [e] at hk; exact h.ow k hk
  · rw [e] at hk; injection hk with hk; omega
end
set_option maxRecDepth 100000 in
set_option maxHeartbeats 32000000 in
theorem applyParts_walk (w : World) (c : CfgD) (vl : Value) (l : List OpD) {S : Nat → Prop} (hl : Row tOp w S vl l) (vm : Value) (m : List OpD) {S' : Nat → Prop} (hm : Row tOp w S' vm m) : Calls Try.prog 12 #[c.val, vl, vm] w fun e w' => e = .returned (.bool true) ∧ Below w.heap.size w w' := by
  have hm1 := hl.len
  have hm2 := hm.len
  unfold maxLen at hm1 hm2
  obtain ⟨A1, c1, rfl⟩ := hl.slice
  obtain ⟨A2, c2, rfl⟩ := hm.slice
  obtain ⟨W0, hW⟩ : ∃ W0, W0 = w.alloc (.cells #[.int .i64 c.nodes, .int .i64 c.edges, .int .i64 c.props, .int .i64 c.ids, .int .i64 c.eids] 23) := ⟨_, rfl⟩
  have K0 := Lib.hid (show Below w.heap.size w W0 by rw [hW]; exact (Below.refl _ w).alloc (Nat.le_refl _) _)
  have s0 : w.heap.size < W0.heap.size := by rw [hW]; simp
  have C0 := Lib.hid (show Box5 W0 w.heap.size _ _ _ _ _ from Box5.of (n := 23) (by rw [hW]; exact heap_alloc_new w _))
  have RL := Lib.hid (hl.bound.mono (S' := fun j => j < w.heap.size) fun j hj _ => hj.2)
  have RM := Lib.hid (hm.bound.mono (S' := fun j => j < w.heap.size) fun j hj _ => hj.2)
  clear hl hm
  unfold CfgD.val
  go_enter Try.func12, Try.ntmps12
  go_wp2_with fail
  rw [← hW]
  clear hW
  refine (live11_calls W0).mono ?_
  rintro e w1 ⟨rfl, hb⟩
  have s1 := hb.size
  have K1 := Lib.hid (K0.out.trans (hb.mono K0.out.size))
  have C1 := Lib.hid (C0.out.keep (hb.block _ s0))
  clear hb K0 C0
  obtain ⟨d0, d1, d2, d3, d4, df⟩ := C1.out
  have g1 : w.heap.size < w1.heap.size := by omega
  go_wp2_with fail
  refine (ref03_calls w1 c).mono ?_
  rintro e w2 ⟨x, rfl, hx, hb⟩
  have s2 := hb.size
  have K2 := Lib.hid (K1.out.trans (hb.mono K1.out.size))
  have C2 := Lib.hid (C1.out.keep (hb.block _ g1))
  clear hb K1 C1 d0 d1 d2 d3 d4 df
  rcases hx with ⟨rfl, hok⟩ | ⟨rfl, _⟩
  case inr =>
    go_wp2
    go_ret
    exact ⟨rfl, K2.out⟩
  have HOK := Lib.hid hok
  clear hok
  by_cases hn : l.length ≤ 30
  case neg =>
    have hd : decide ((30 : Int) < (l.length : Int)) = true := by simp; omega
    go_wp2
    go_ret
    exact ⟨rfl, K2.out⟩
  have hd : decide ((30 : Int) < (l.length : Int)) = false := by simp; omega
  by_cases hn2 : m.length ≤ 30
  case neg =>
    have hd2 : decide ((30 : Int) < (m.length : Int)) = true := by simp; omega
    go_wp2
    go_ret
    exact ⟨rfl, K2.out⟩
  have hd2 : decide ((30 : Int) < (m.length : Int)) = false := by simp; omega
  obtain ⟨d0, d1, d2, d3, d4, df⟩ := C2.out
  have g2 : w.heap.size < w2.heap.size := by omega
  go_wp2_with fail
  clear hd hd2
  refine (all_calls w2 _ c l _ (RL.out.below K2.out) HOK.out (by omega)).mono ?_
  rintro e w3 hp
  obtain ⟨A3, L3, c3, A4, L4, c4, A5, c5, rvs, rfl, hg, ho, hr, hb⟩ := all_slices hp
  have s3 := hb.size
  have K3 := Lib.hid (K2.out.trans (hb.mono K2.out.size))
  have C3 := Lib.hid (C2.out.keep (hb.block _ g2))
  have hvlt := ho.lt
  clear hp d0 d1 d2 d3 d4 df
  obtain ⟨g, hgz⟩ : ∃ z, z = stG c .new l l.length := ⟨_, rfl⟩
  obtain ⟨rs, hrz⟩ : ∃ z, z = resG c .new l l.length := ⟨_, rfl⟩
  rw [← hgz] at hg ⊢
  rw [← hrz] at hr
  have HGZ := Lib.hid hgz
  have HRZ := Lib.hid hrz
  clear hgz hrz
  obtain ⟨U, hU⟩ : ∃ U, U = w3.alloc (.cells #[.slice A3 L3 c3, .slice A4 L4 c4, .int .i64 g.nn, .int .i64 g.ne] 27) := ⟨_, rfl⟩
  have g3 : w.heap.size < w3.heap.size := by omega
  obtain ⟨d0, d1, d2, d3, d4, df⟩ := C3.out
  have hbu : Below w3.heap.size w3 U := by rw [hU]; exact (Below.refl _ w3).alloc (Nat.le_refl _) _
  have gU : U.heap.size = w3.heap.size + 1 := by rw [hU]; simp
  have BU : Box4 U w3.heap.size (.slice A3 L3 c3) (.slice A4 L4 c4) (.int .i64 g.nn) (.int .i64 g.ne) := by rw [hU]; exact Box4.made w3 27 _ _ _ _
  have KU := Lib.hid (K3.out.trans (hbu.mono K3.out.size))
  have RU := Lib.hid (show AR w w2.heap.size w3.heap.size g (.slice A5 rvs.length c5) rvs rs U from ⟨KU.out, ⟨by omega, s3⟩, by omega, ⟨_, _, BU, (hg.bound.below hbu).mono fun j hj _ => ⟨hj.1.1, by have := hj.2; omega, hj.1.2⟩⟩,
    (ho.bound.below hbu).mono fun j hj _ => ⟨hj.1, by have := hj.2; omega⟩, (hr.bound.below hbu).mono fun j hj _ => ⟨hj.1.1, by have := hj.2; omega, hj.1.2⟩⟩)
  have CU := Lib.hid (C3.out.keep (hbu.block _ g3))
  have hvge := Lib.hid (fun k hk => (⟨ho.1 k hk, hvlt k hk⟩ : w2.heap.size ≤ k ∧ k < w3.heap.size))
  have RLU := Lib.hid (RL.out.below KU.out)
  have RMU := Lib.hid (RM.out.below KU.out)
  have HRV := Lib.hid (show rvs.length = l.length by rw [hr.1, HRZ.out]; exact resG_len (Nat.le_refl _))
  clear hg ho hr hb hbu BU hvlt K3 C3 K2 C2 RL RM
  go_wp2
  rw [← hU]
  clear hU d0 d1 d2 d3 d4 df
  have s4 : w2.heap.size < U.heap.size := by omega
  have s5 : w3.heap.size < U.heap.size := by omega
  have s6 : U.heap.size ≤ w3.heap.size + 1 := by omega
  have gw : w.heap.size < U.heap.size := by omega
  generalize hbG : w3.heap.size = bG at *
  obtain ⟨qs, hqs⟩ : ∃ q, q = l ++ m := ⟨_, rfl⟩
  have HQS := Lib.hid hqs
  clear hqs
  clear gU g3
  obtain ⟨d0, d1, d2, d3, d4, df⟩ := CU.out
  refine wp_region_tr (fun _ => True) (.take 0 (.take 1 (.take 3 (.two 2 (.two 4 (.two 5 (.take 6 (.take 7 (.take 8 (.step 9 (.step 10 (.take 11 .nil)))))) 9 (.step 5 (.take 6 (.take 7 (.take 8 (.step 10 (.take 11 .nil))))))) 9 (.step 4 (.step 5 (.take 6 (.take 7 (.take 8 (.step 10 (.take 11 .nil)))))))) 9 (.step 2 (.step 4 (.step 5 (.take 6 (.take 7 (.take 8 (.step 10 (.take 11 .nil)))))))))))) (by kernel_rfl) (by kernel_rfl) (fun hS => ?_)
  have HK := Lib.hid hS
  clear hS
  have KX0 := Lib.hid (Below.refl U.heap.size U).drew
  revert HK KX0
  generalize U.drew = X0
  intro HK KX0
  repeat (refine tr_take (v := ?_) (by simp only [List.getElem?_toArray, List.getElem?_cons_succ, List.getElem?_cons_zero]; rfl) (Or.inl ⟨by rfl, fun W hW => ?_⟩) HK.out ?_; rotate_left; (have hc := fun b o hb => hW.cell b o trivial hb; clear hW; go_simp; with_reducible rfl); simp only [Act.put, List.setIfInBounds_toArray, List.set_cons_zero, List.set_cons_succ])
  rename_i Kr ar
  have CUT0 : ∀ (u0 u1 u4 u5 u6 u11 u12 u13 u14 u15 u16 u17 u18 u19 u20 u21 u22 u23 u24 u25 u26 u27 u28 u29 u30 u31 u32 u33 u34 u35 u36 u37 u38 u39 u40 u41 u42 u43 u44 u45 u46 u47 u48 u49 u50 u51 u52 u53 u54 u55 u56 u57 u58 u59 u60 u61 u62 u63 u64 u65 u66 u67 u68 u69 u70 u71 : Value) (b9 : Nat) (A6 : Option Addr) (L6 c6 : Nat) (A7 : Option Addr) (L7 c7 : Nat) (A8 : Option Addr) (c8 : Nat) (svs : List RV) (X : World), Below U.heap.size U X → U.heap.size ≤ b9 → b9 < X.heap.size → Box4 X b9 (.slice A6 L6 c6) (.slice A7 L7 c7) (.int .i64 (stG c .new qs qs.length).nn) (.int .i64 (stG c .new qs qs.length).ne) → Gr X (fun k => U.heap.size ≤ k) (stG c .new qs qs.length) (.slice A6 L6 c6) (.slice A7 L7 c7) → Row tRV X (fun k => U.heap.size ≤ k) (.slice A8 svs.length c8) svs → RVs X (fun k => U.heap.size ≤ k) svs (resG c .new qs qs.length) → Kr {tmps := #[u0, u1, .slice A2 m.length c2, .pointer (some ⟨w.heap.size, 0, none⟩), u4, u5, u6, .pointer (some ⟨bG, 0, none⟩), .slice A5 rvs.length c5, .pointer (some ⟨b9, 0, none⟩), .slice A8 svs.length c8, u11, u12, u13, u14, u15, u16, u17, u18, u19, u20, u21, u22, u23, u24, u25, u26, u27, u28, u29, u30, u31, u32, u33, u34, u35, u36, u37, u38, u39, u40, u41, u42, u43, u44, u45, u46, u47, u48, u49, u50, u51, u52, u53, u54, u55, u56, u57, u58, u59, u60, u61, u62, u63, u64, u65, u66, u67, u68, u69, u70, u71], defers := []} X := by
    intro u0 u1 u4 u5 u6 u11 u12 u13 u14 u15 u16 u17 u18 u19 u20 u21 u22 u23 u24 u25 u26 u27 u28 u29 u30 u31 u32 u33 u34 u35 u36 u37 u38 u39 u40 u41 u42 u43 u44 u45 u46 u47 u48 u49 u50 u51 u52 u53 u54 u55 u56 u57 u58 u59 u60 u61 u62 u63 u64 u65 u66 u67 u68 u69 u70 u71 b9 A6 L6 c6 A7 L7 c7 A8 c8 svs X hKX hb9 hb9' hbx hgx hrx hvx
    refine ar _ _ ?_
    clear ar Kr HK KX0 X0 d0 d1 d2 d3 d4 df
    have hX := hKX.size
    have RX := Lib.hid (RU.out.below hKX)
    have CX := Lib.hid (CU.out.keep (hKX.block _ gw))
    have RMX := Lib.hid (RMU.out.below hKX)
    have E1 := Lib.hid (show stG c .new qs qs.length = stG c g m m.length ∧ resG c .new qs qs.length = rs ++ resG c g m m.length from by
      have := stG_behind (c := c) (g := .new) (l := l) (m := m) (Nat.le_refl m.length)
      rw [HQS.out, List.length_append, HGZ.out, HRZ.out]
      exact this)
    have RDY := Lib.hid (show ∀ k, k ≤ m.length → Rdy c (stG c g m k) from fun k hk => by
      rw [HGZ.out]
      exact ((((Inv.new HOK.out).run l (by omega) (Nat.le_refl l.length)).run m (by omega) hk).start (by omega)).rdy HOK.out)
    have BX := Lib.hid hbx
    have GX := Lib.hid hgx
    have OX := Lib.hid hrx
    have VX := Lib.hid hvx
    have PX := Lib.hid (show PL w2.heap.size bG U.heap.size X.heap.size X (.slice A5 rvs.length c5) X from ⟨fun _ _ => rfl, Nat.le_refl _, fun k hk => ⟨(hvge.out k hk).1, .inl (by have := (hvge.out k hk).2; omega)⟩, by omega, by omega, hX⟩)
    clear hbx hgx hrx hvx hKX RU CU RMU RLU KU
    have L0 := Lib.hid (show AR w w2.heap.size bG (stG c g m 0) (.slice A5 rvs.length c5) rvs (rs ++ resG c g m 0) X ∧ PL w2.heap.size bG U.heap.size X.heap.size X (.slice A5 rvs.length c5) X from ⟨by show AR w w2.heap.size bG g _ rvs (rs ++ []) X; rw [List.append_nil]; exact RX.out, PX.out⟩)
    clear RX PX
    go_wp2
    go_loopw [8, 47] (fun t p wr => ∃ (k : Nat) (tvs : List RV), k ≤ m.length ∧ p = .int .i64 (k : Int) ∧ Hid (AR w w2.heap.size bG (stG c g m k) t tvs (rs ++ resG c g m k) wr ∧ PL w2.heap.size bG U.heap.size X.heap.size X t wr)) (fun _ p _ => m.length - (intOf p).toNat)
    case atStart => exact ⟨0, rvs, Nat.zero_le _, rfl, L0⟩
    case round =>
      clear L0
      obtain ⟨wa, rfl⟩ : ∃ wa, wa = wr := ⟨wr, rfl⟩
      obtain ⟨k, tvs, hk, rfl, hal⟩ := hrel
      obtain ⟨At, ct, rfl⟩ := hal.out.1.own.slice
      have hlg := hal.out.1.lg
      have hsz := hal.out.2.sz
      have hsm := Lib.hid hal.out.2.sm
      have CA := Lib.hid (CX.out.keep (hsm.out _ (.inl g2)))
      have RMA := Lib.hid (RMX.out.move (w' := wa) fun j hj _ => hsm.out j (.inl (by (try simp only at hj); omega)))
      by_cases hlt : k < m.length
      case neg =>
        obtain rfl : k = m.length := by omega
        obtain ⟨vn, ve, hbox, hgr⟩ := hal.out.1.gr
        obtain ⟨⟨A9, L9, c9, rfl⟩, A10, L10, c10, rfl⟩ := hgr.sl3
        have HGR := Lib.hid (hgr.mono (S' := fun _ => True) fun _ _ _ => trivial)
        have hs2 : ∀ j, U.heap.size ≤ j → j < X.heap.size → wa.heap[j]? = X.heap[j]? := fun j h1 h2 => hsm.out j (.inr ⟨h1, h2⟩)
        have BA := BX.out.keep (hs2 b9 hb9 hb9')
        have GA := Lib.hid (((GX.out.bound.move (w' := wa) fun j hj _ => hs2 j hj.1 hj.2).mono (S' := fun _ => True) fun _ _ _ => trivial))
        have OA := Lib.hid (OX.out.bound.move (w' := wa) fun j hj _ => hs2 j hj.1 hj.2)
        have VA := Lib.hid (VX.out.bound.move (w' := wa) fun j hj _ => hs2 j hj.1 hj.2)
        have TA := Lib.hid hal.out.1.own.row
        have TV := Lib.hid hal.out.1.rs
        have KA := Lib.hid hal.out.1.K
        obtain ⟨x0, x1, x2, x3, xf⟩ := hbox
        obtain ⟨y0, y1, y2, y3, yf⟩ := BA
        have q9 : b9 < wa.heap.size := by omega
        clear hgr hs2 hal
        rw [E1.out.1] at GA
        rw [E1.out.1] at y2 y3
        rw [E1.out.2] at VA
        obtain ⟨z, hz⟩ : ∃ z, z = stG c g m m.length := ⟨_, rfl⟩
        rw [← hz] at GA HGR
        rw [← hz] at x2 x3 y2 y3
        clear hz
        go_wp2_with fail
        refine (same_calls wa (fun _ => True) z z _ _ _ _ HGR.out GA.out).mono ?_
        rintro e w5 ⟨b, rfl, hb, hbel⟩
        obtain rfl : b = true := hb.2 (by trivial)
        have K5 := Lib.hid (KA.out.trans (hbel.mono KA.out.size))
        have htl : tvs.length ≤ 100000 := by
          have h1 := TV.out.1
          have h2 := HRV.out
          have h3 : (resG c g m m.length).length = m.length := resG_len (Nat.le_refl _)
          rw [List.length_append] at h1
          have h4 : rs.length = l.length := by rw [HRZ.out]; exact resG_len (Nat.le_refl _)
          omega
        have HSA := Lib.hid (sameAll_calls w5 _ _ _ _ _ _ tvs svs _ _ (TA.out.below hbel) (TV.out.below hbel) (OA.out.below hbel) (VA.out.below hbel) htl)
        clear hb hbel x0 x1 x2 x3 xf y0 y1 y2 y3 yf
        go_wp2_with fail
        refine HSA.out.mono ?_
        rintro e w6 ⟨b, rfl, hb, hbel⟩
        obtain rfl : b = true := hb.2 (by trivial)
        have K6 := Lib.hid (K5.out.trans (hbel.mono K5.out.size))
        clear hb hbel HSA
        go_wp2
        go_ret
        exact ⟨rfl, K6.out⟩
      obtain ⟨x, hx⟩ := getElem?_of_lt hlt
      obtain ⟨bo, oo, rfl, hbo, hbl, o0, o1, o2, o3, o4⟩ := RMA.out.atOp hx
      have HX := Lib.hid hx
      clear hx
      obtain ⟨vn, ve, hbox, hgr⟩ := hal.out.1.gr
      obtain ⟨⟨A13, L13, c13, rfl⟩, A14, L14, c14, rfl⟩ := hgr.sl3
      have HGR := Lib.hid hgr
      obtain ⟨x0, x1, x2, x3, xf⟩ := hbox
      obtain ⟨d0, d1, d2, d3, d4, df⟩ := CA.out
      have q1 : w.heap.size < wa.heap.size := by omega
      clear hgr
      obtain ⟨W1, hW1⟩ : ∃ W1, W1 = wa.alloc (.cells #[.int .i64 x.k, .int .i64 x.a, .int .i64 x.b, .int .i64 x.p, .int .i64 x.v] 73) := ⟨_, rfl⟩
      go_wp2_with fail
      rw [← hW1]
      have hb1 : Below wa.heap.size wa W1 := by rw [hW1]; exact (Below.refl _ wa).alloc (Nat.le_refl _) _
      have t1 : wa.heap.size < W1.heap.size := by rw [hW1]; simp
      clear hW1
      refine (do_calls W1 _ c (stG c g m k) _ _ x (HGR.out.below hb1) (RDY.out k hk)).mono ?_
      rintro e wd hpost
      obtain ⟨A15, L15, c15, A16, L16, c16, a1, e1, a2, e2, a3, e3, rfl, hgz, hrz, hb⟩ := do_slices hpost
      have HST := Lib.hid (stG_succ (c := c) (g := g) HX.out)
      have HRS := Lib.hid (resG_succ (c := c) (g := g) HX.out)
      revert HST HRS hgz hrz
      generalize doOf c (stG c g m k) x = dd
      intro hgz hrz HST HRS
      obtain ⟨z, r⟩ := dd
      simp only at HST HRS hgz hrz ⊢
      have t2 := hb.size
      have hown := Lib.hid (fun j (hj : Value.ownBlock (.slice At tvs.length ct) = some j) => hal.out.1.lt hj)
      have HZ := Lib.hid (hgz.mono (S' := fun j => w2.heap.size ≤ j ∧ j ≠ bG ∧ (Value.slice At tvs.length ct).ownBlock ≠ some j) fun j hj _ => ⟨by (try simp only at hj); omega, by (try simp only at hj); omega, fun e => by have := hown.out j e; (try simp only at hj); omega⟩)
      have HR := (RV1.of hrz).mono (S' := fun j => w2.heap.size ≤ j ∧ j ≠ bG ∧ (Value.slice At tvs.length ct).ownBlock ≠ some j) fun j hj _ => ⟨by (try simp only at hj); omega, by (try simp only at hj); omega, fun e => by have := hown.out j e; (try simp only at hj); omega⟩
      have AR2 := (hal.out.1.below hb1).below hb
      have PL2 := ((hal.out.2.below hb1).below hb).setG (.slice A15 L15 c15) (.slice A16 L16 c16) (.int .i64 z.nn) (.int .i64 z.ne)
      have HL := Lib.hid (show tvs.length ≤ 60 from by
        have h1 := hal.out.1.rs.1
        have h2 : (resG c g m k).length = k := resG_len (by omega)
        have h4 : rs.length = l.length := by rw [HRZ.out]; exact resG_len (Nat.le_refl _)
        rw [List.length_append] at h1
        omega)
      obtain ⟨Y, hY⟩ : ∃ Y, Y = set4 wd bG (.slice A15 L15 c15) (.slice A16 L16 c16) (.int .i64 z.nn) (.int .i64 z.ne) := ⟨_, rfl⟩
      have hYk : ∀ j, j ≠ bG → Y.heap[j]? = wd.heap[j]? := fun j hj => by rw [hY]; exact set4_heap _ _ _ _ _ _ _ hj
      have ARU := AR2.setG HZ.out
      rw [← hY] at ARU PL2
      have HRU := HR.move (w' := Y) fun j hj _ => hYk j hj.2.1
      have hb3 : Below Y.heap.size Y ((Y.alloc (.cells #[.slice A15 L15 c15, .slice A16 L16 c16, .int .i64 z.nn, .int .i64 z.ne] 27)).alloc (.cells #[.int .i64 r.st, .int .i64 r.id, .slice a1 r.ps.length e1, .slice a2 r.os.length e2, .slice a3 r.is.length e3] 75)) := (by repeat (first | (with_reducible exact Below.refl _ _) | (with_reducible exact Below.refl _ _) | (with_reducible refine Below.drew ?_) | (with_reducible refine Below.alloc ?_ (by simp; try omega) _) | (with_reducible refine Below.setCell ?_ (by simp; try omega) _)))
      have PL4 := Lib.hid (PL2.below hb3)
      have AR4 := Lib.hid (ARU.below hb3)
      have HR4 := Lib.hid ((⟨HRU.st, HRU.id, HRU.ps.below hb3, HRU.os.below hb3, HRU.is.below hb3⟩ : RV1 _ _ _ _))
      obtain ⟨x0, x1, x2, x3, xf⟩ : Box4 wd bG (.slice A13 L13 c13) (.slice A14 L14 c14) (.int .i64 (stG c g m k).nn) (.int .i64 (stG c g m k).ne) := Box4.keep ⟨x0, x1, x2, x3, xf⟩ ((hb.block _ (by omega)).trans (hb1.block _ (by omega)))
      unfold set4 at hY
      subst hY
      have n1 : ¬ bG = wd.heap.size := by omega
      have n2 : ¬ bG = wd.heap.size + 1 := by omega
      have n3 : ¬ wd.heap.size = bG := by omega
      have n4 : ¬ wd.heap.size + 1 = bG := by omega
      have q2 : bG < wd.heap.size := by omega
      clear hpost hgz hrz hb hb1 hb3 o0 o1 o2 o3 o4 d0 d1 d2 d3 d4 df HGR hal HR HRU ARU PL2 hYk AR2 HZ CA RMA hsm
      go_wp2_with (at_builtin; refine wpList_own_append1 (ty := tRV) (w := w) (S := fun j => w2.heap.size ≤ j ∧ j ≠ bG) (Sy := fun _ => False) (v := .slice At tvs.length ct) (xs := tvs) (x := ⟨r.st, r.id, a1, r.ps.length, e1, a2, r.os.length, e2, a3, r.is.length, e3⟩) rfl _ _ 67 75 88 _ rfl elemRes rfl ?hown rfl (by simp <;> omega) rfl ?hB ?hSw ?hSn ?hbytes ?hlen (fun _ h => h.elim) ?_)
      case hown => exact AR4.out.own
      case hB => exact AR4.out.K
      case hSw => exact fun j hj => by have := hj.1; omega
      case hSn => exact fun j _ hj => ⟨by simp at hj; omega, by simp at hj; omega⟩
      case hbytes => have := HL.out; omega
      case hlen => have := HL.out; unfold maxLen; omega
      intro v3 wf ho3 hb3 hg3 hor3
      have hor4 := hor3
      have AR5 := Lib.hid (AR4.out.app HR4.out hb3 ho3 hg3 (by simp only [World.size_alloc, World.size_setCell]; exact hor3))
      have PL5 := Lib.hid (PL4.out.app hg3 (by simp only [World.size_alloc, World.size_setCell]; exact hor4))
      clear AR4 PL4 HR4 hg3 hb3 ho3 hor3 hor4 x0 x1 x2 x3 xf
      go_wp2
      go_roundw
      case rel => exact ⟨k + 1, _, by omega, by first | (go_num; done) | (go_num; omega), Lib.hid ⟨by rw [HST.out, HRS.out, ← List.append_assoc]; exact AR5.out, PL5.out⟩⟩
      case measure => simp [intOf]; omega
  have CUT := Lib.hid CUT0
  clear ar CUT0
  refine tr_two (by simp only [List.getElem?_toArray, List.getElem?_cons_succ, List.getElem?_cons_zero]; rfl) ?_ (by simp only [List.getElem?_toArray, List.getElem?_cons_succ, List.getElem?_cons_zero]; rfl) (Hid.out ?_)
  · skip
    go_wp2_with (at_builtin; refine wpList_own_append (ty := tOp) (W := X0) (S := fun k => True) (Sy := fun j => j < w.heap.size) (v := .slice none 0 0) (xs := []) (ys := l) rfl _ _ 65 73 40 _ rfl elemOps rfl (Own.nil _ _ _ _) A1 l.length c1 rfl (RLU.out.below KX0.out) rfl ?p1 ?p2 trivial (fun k h _ => ⟨trivial, by simp [Value.ownBlock]⟩) ?_)
    case p1 => first | omega | (simp; omega)
    case p2 => unfold maxLen; first | omega | (simp; omega)
    intro v1 X1 ho1 hg1 hor1
    have zz := KX0.out.size
    have KX1 := Lib.hid (show Below U.heap.size U X1 from KX0.out.grown hg1 zz (fun k hk => by simp [Value.ownBlock] at hk))
    have HK1 := Lib.hid (show Kept U (fun _ => True) X1 from ⟨KX1.out.size, fun k _ hk => KX1.out.block k hk⟩)
    have OW := Lib.hid (show Own tOp 73 X1 (fun _ => True) v1 l from ho1)
    have OB := Lib.hid (show ∀ k, v1.ownBlock = some k → U.heap.size ≤ k from fun k hk => by
      rcases hor1 with h | h
      · rw [h] at hk; simp [Value.ownBlock] at hk
      · have h9 := Option.some.inj (h.symm.trans hk); omega)
    have zz2 := hg1.size
    clear hg1 hor1 ho1 zz
    obtain ⟨Av, cv, rfl⟩ := OW.out.slice
    go_wp2_with fail
    refine tr_on HK1.out ?_
    repeat (refine tr_take (v := ?_) (by simp only [List.getElem?_toArray, List.getElem?_cons_succ, List.getElem?_cons_zero]; rfl) (Or.inl ⟨by rfl, fun W hW => ?_⟩) HK1.out ?_; rotate_left; (have hc := fun b o hb => hW.cell b o trivial hb; clear hW; go_simp; with_reducible rfl); simp only [Act.put, List.setIfInBounds_toArray, List.set_cons_zero, List.set_cons_succ])
    refine tr_two (by simp only [List.getElem?_toArray, List.getElem?_cons_succ, List.getElem?_cons_zero]; rfl) ?_ (by simp only [List.getElem?_toArray, List.getElem?_cons_succ, List.getElem?_cons_zero]; rfl) (Hid.out ?_)
    · skip
      go_wp2_with (at_builtin; refine wpList_own_append (ty := tOp) (W := X1) (S := fun k => True) (Sy := fun j => j < w.heap.size) (v := .slice Av l.length cv) (xs := l) (ys := m) rfl _ _ 65 73 40 _ rfl elemOps rfl OW.out A2 m.length c2 rfl (RMU.out.below KX1.out) rfl ?p1 ?p2 trivial (fun k h _ => ⟨trivial, fun e => by have := OB.out k e; omega⟩) ?_)
      case p1 => first | omega | (simp; omega)
      case p2 => unfold maxLen; first | omega | (simp; omega)
      intro v2 X2 ho1 hg1 hor1
      have zz := KX1.out.size
      have KX2 := Lib.hid (show Below U.heap.size U X2 from KX1.out.grown hg1 zz OB.out)
      have HK2 := Lib.hid (show Kept U (fun _ => True) X2 from ⟨KX2.out.size, fun k _ hk => KX2.out.block k hk⟩)
      have OW2 := Lib.hid (show Own tOp 73 X2 (fun _ => True) v2 qs from by rw [HQS.out]; exact ho1)
      have zz2 := hg1.size
      clear hg1 hor1 ho1 zz OW OB
      obtain ⟨Aw, cw, rfl⟩ := OW2.out.slice
      go_wp2_with fail
      refine tr_on HK2.out ?_
      repeat (refine tr_take (v := ?_) (by simp only [List.getElem?_toArray, List.getElem?_cons_succ, List.getElem?_cons_zero]; rfl) (Or.inl ⟨by rfl, fun W hW => ?_⟩) HK2.out ?_; rotate_left; (have hc := fun b o hb => hW.cell b o trivial hb; clear hW; go_simp; with_reducible rfl); simp only [Act.put, List.setIfInBounds_toArray, List.set_cons_zero, List.set_cons_succ])
      refine tr_two (by simp only [List.getElem?_toArray, List.getElem?_cons_succ, List.getElem?_cons_zero]; rfl) ?_ (by simp only [List.getElem?_toArray, List.getElem?_cons_succ, List.getElem?_cons_zero]; rfl) (Hid.out ?_)
      · skip
        go_wp2_with fail
        refine (all_calls X2 _ c qs _ OW2.out.row HOK.out (by rw [HQS.out, List.length_append]; omega)).mono ?_
        rintro e X3 hp
        obtain ⟨A6, L6, c6, A7, L7, c7, A8, c8, svs, rfl, hg, ho, hr, hb⟩ := all_slices hp
        have zz := KX2.out.size
        have KX3 := Lib.hid (KX2.out.trans (hb.mono zz))
        have HK3 := Lib.hid (HK2.out.below hb)
        have GS := Lib.hid (hg.mono (S' := fun k => X2.heap.size ≤ k) fun k hk _ => hk.1)
        have OS := Lib.hid (ho.row)
        have VS := Lib.hid (hr.mono (S' := fun k => X2.heap.size ≤ k) fun k hk _ => hk.1)
        have zz2 := hb.size
        clear hp hg ho hr hb OW2
        generalize hz2 : stG c .new qs qs.length = z2 at GS CUT ⊢
        generalize hr2 : resG c .new qs qs.length = ss at VS CUT
        clear hz2 hr2
        go_wp2_with fail
        refine tr_on HK3.out ?_
        repeat (refine tr_take (v := ?_) (by simp only [List.getElem?_toArray, List.getElem?_cons_succ, List.getElem?_cons_zero]; rfl) (Or.inl ⟨by rfl, fun W hW => ?_⟩) HK3.out ?_; rotate_left; (have hc := fun b o hb => hW.cell b o trivial hb; clear hW; go_simp; with_reducible rfl); simp only [Act.put, List.setIfInBounds_toArray, List.set_cons_zero, List.set_cons_succ])
        refine tr_step (by simp only [List.getElem?_toArray, List.getElem?_cons_succ, List.getElem?_cons_zero]; rfl) ?_
        obtain ⟨X4, hV⟩ : ∃ V, V = X3.alloc (.cells #[.slice none 0 0, .slice none 0 0, .int .i64 0, .int .i64 0] 27) := ⟨_, rfl⟩
        have hb : Below X3.heap.size X3 X4 := by rw [hV]; exact (Below.refl _ X3).alloc (Nat.le_refl _) _
        have zz := KX3.out.size
        have n9 : X3.heap.size < X4.heap.size := by rw [hV]; simp
        have n9b := n9
        have B9 := Lib.hid (show Box4 X4 X3.heap.size _ _ _ _ from by rw [hV]; exact Box4.made X3 27 (.slice none 0 0) (.slice none 0 0) (.int .i64 0) (.int .i64 0))
        have KX4 := Lib.hid (KX3.out.trans (hb.mono zz))
        have HK4 := Lib.hid (HK3.out.below hb)
        replace GS := Lib.hid (GS.out.bound.below hb)
        replace OS := Lib.hid (OS.out.bound.below hb)
        replace VS := Lib.hid (VS.out.bound.below hb)
        have zz2 := hb.size
        go_wp2_with fail
        rw [← hV]
        clear hV hb
        refine tr_on HK4.out ?_
        repeat (refine tr_take (v := ?_) (by simp only [List.getElem?_toArray, List.getElem?_cons_succ, List.getElem?_cons_zero]; rfl) (Or.inl ⟨by rfl, fun W hW => ?_⟩) HK4.out ?_; rotate_left; (have hc := fun b o hb => hW.cell b o trivial hb; clear hW; go_simp; with_reducible rfl); simp only [Act.put, List.setIfInBounds_toArray, List.set_cons_zero, List.set_cons_succ])
        obtain ⟨y0, y1, y2, y3, yf⟩ := B9.out
        have zz5 := KX4.out.size
        refine tr_step (by simp only [List.getElem?_toArray, List.getElem?_cons_succ, List.getElem?_cons_zero]; rfl) ?_
        go_wp2_with fail
        have ww : w.heap.size < X4.heap.size := by omega
        have hb9 : U.heap.size ≤ X3.heap.size := by have := KX0.out.size; have := KX1.out.size; have := KX2.out.size; have := KX3.out.size; omega
        have hbb : U.heap.size ≤ X2.heap.size := by have := KX0.out.size; have := KX1.out.size; have := KX2.out.size; have := KX3.out.size; omega
        refine tr_on (by repeat (first | (with_reducible exact HK4.out) | with_reducible refine Kept.setCell ?_ (.inl (by simp; try omega)) _)) ?_
        repeat (refine tr_take (v := ?_) (by simp only [List.getElem?_toArray, List.getElem?_cons_succ, List.getElem?_cons_zero]; rfl) (Or.inl ⟨by rfl, fun W hW => ?_⟩) (by repeat (first | (with_reducible exact HK4.out) | with_reducible refine Kept.setCell ?_ (.inl (by simp; try omega)) _)) ?_; rotate_left; (skip; clear hW; go_simp; with_reducible rfl); simp only [Act.put, List.setIfInBounds_toArray, List.set_cons_zero, List.set_cons_succ])
        refine tr_done ?_
        have hs4 : ∀ j, j ≠ X3.heap.size → (set4 X4 (X3.heap.size) (.slice A6 L6 c6) (.slice A7 L7 c7) (.int .i64 z2.nn) (.int .i64 z2.ne)).heap[j]? = X4.heap[j]? := fun j hj => set4_heap _ _ _ _ _ _ _ hj
        exact CUT.out _ _ _ _ _ _ _ _ _ _ _ _ _ _ _ _ _ _ _ _ _ _ _ _ _ _ _ _ _ _ _ _ _ _ _ _ _ _ _ _ _ _ _ _ _ _ _ _ _ _ _ _ _ _ _ _ _ _ _ _ _ _ _ _ _ _ (X3.heap.size) A6 L6 c6 A7 L7 c7 A8 c8 svs (set4 X4 (X3.heap.size) _ _ _ _) (set4_below KX4.out hb9 _ _ _ _) hb9 (by rw [set4_size]; exact n9) (B9.out.set _ _ _ _)
          ((GS.out.move (w' := set4 X4 (X3.heap.size) _ _ _ _) fun j hj _ => hs4 j (by (try simp only at hj); omega)).mono fun j hj _ => by (try simp only at hj ⊢); omega)
          ((OS.out.move (w' := set4 X4 (X3.heap.size) _ _ _ _) fun j hj _ => hs4 j (by (try simp only at hj); omega)).mono fun j hj _ => by (try simp only at hj ⊢); omega)
          ((VS.out.move (w' := set4 X4 (X3.heap.size) _ _ _ _) fun j hj _ => hs4 j (by (try simp only at hj); omega)).mono fun j hj _ => by (try simp only at hj ⊢); omega)
      · refine Lib.hid ?_
        obtain ⟨X3, hV⟩ : ∃ V, V = X2.alloc (.cells #[.slice none 0 0, .slice none 0 0, .int .i64 0, .int .i64 0] 27) := ⟨_, rfl⟩
        have hb : Below X2.heap.size X2 X3 := by rw [hV]; exact (Below.refl _ X2).alloc (Nat.le_refl _) _
        have zz := KX2.out.size
        have n9 : X2.heap.size < X3.heap.size := by rw [hV]; simp
        have n9b := n9
        have B9 := Lib.hid (show Box4 X3 X2.heap.size _ _ _ _ from by rw [hV]; exact Box4.made X2 27 (.slice none 0 0) (.slice none 0 0) (.int .i64 0) (.int .i64 0))
        have KX3 := Lib.hid (KX2.out.trans (hb.mono zz))
        have HK3 := Lib.hid (HK2.out.below hb)
        replace OW2 := Lib.hid (OW2.out.below hb)
        have zz2 := hb.size
        go_wp2_with fail
        rw [← hV]
        clear hV hb
        refine tr_on HK3.out ?_
        repeat (refine tr_take (v := ?_) (by simp only [List.getElem?_toArray, List.getElem?_cons_succ, List.getElem?_cons_zero]; rfl) (Or.inl ⟨by rfl, fun W hW => ?_⟩) HK3.out ?_; rotate_left; (have hc := fun b o hb => hW.cell b o trivial hb; clear hW; go_simp; with_reducible rfl); simp only [Act.put, List.setIfInBounds_toArray, List.set_cons_zero, List.set_cons_succ])
        refine tr_step (by simp only [List.getElem?_toArray, List.getElem?_cons_succ, List.getElem?_cons_zero]; rfl) ?_
        go_wp2_with fail
        refine (all_calls X3 _ c qs _ OW2.out.row HOK.out (by rw [HQS.out, List.length_append]; omega)).mono ?_
        rintro e X4 hp
        obtain ⟨A6, L6, c6, A7, L7, c7, A8, c8, svs, rfl, hg, ho, hr, hb⟩ := all_slices hp
        have zz := KX3.out.size
        have KX4 := Lib.hid (KX3.out.trans (hb.mono zz))
        have HK4 := Lib.hid (HK3.out.below hb)
        have GS := Lib.hid (hg.mono (S' := fun k => X3.heap.size ≤ k) fun k hk _ => hk.1)
        have OS := Lib.hid (ho.row)
        have VS := Lib.hid (hr.mono (S' := fun k => X3.heap.size ≤ k) fun k hk _ => hk.1)
        replace B9 := Lib.hid (B9.out.keep (hb.block _ n9))
        replace n9 := Nat.lt_of_lt_of_le n9 hb.size
        have zz2 := hb.size
        clear hp hg ho hr hb OW2
        generalize hz2 : stG c .new qs qs.length = z2 at GS CUT ⊢
        generalize hr2 : resG c .new qs qs.length = ss at VS CUT
        clear hz2 hr2
        go_wp2_with fail
        refine tr_on HK4.out ?_
        repeat (refine tr_take (v := ?_) (by simp only [List.getElem?_toArray, List.getElem?_cons_succ, List.getElem?_cons_zero]; rfl) (Or.inl ⟨by rfl, fun W hW => ?_⟩) HK4.out ?_; rotate_left; (have hc := fun b o hb => hW.cell b o trivial hb; clear hW; go_simp; with_reducible rfl); simp only [Act.put, List.setIfInBounds_toArray, List.set_cons_zero, List.set_cons_succ])
        obtain ⟨y0, y1, y2, y3, yf⟩ := B9.out
        have zz5 := KX4.out.size
        refine tr_step (by simp only [List.getElem?_toArray, List.getElem?_cons_succ, List.getElem?_cons_zero]; rfl) ?_
        go_wp2_with fail
        have ww : w.heap.size < X4.heap.size := by omega
        have hb9 : U.heap.size ≤ X2.heap.size := by have := KX0.out.size; have := KX1.out.size; have := KX2.out.size; have := KX3.out.size; omega
        have hbb : U.heap.size ≤ X3.heap.size := by have := KX0.out.size; have := KX1.out.size; have := KX2.out.size; have := KX3.out.size; omega
        refine tr_on (by repeat (first | (with_reducible exact HK4.out) | with_reducible refine Kept.setCell ?_ (.inl (by simp; try omega)) _)) ?_
        repeat (refine tr_take (v := ?_) (by simp only [List.getElem?_toArray, List.getElem?_cons_succ, List.getElem?_cons_zero]; rfl) (Or.inl ⟨by rfl, fun W hW => ?_⟩) (by repeat (first | (with_reducible exact HK4.out) | with_reducible refine Kept.setCell ?_ (.inl (by simp; try omega)) _)) ?_; rotate_left; (skip; clear hW; go_simp; with_reducible rfl); simp only [Act.put, List.setIfInBounds_toArray, List.set_cons_zero, List.set_cons_succ])
        refine tr_done ?_
        have hs4 : ∀ j, j ≠ X2.heap.size → (set4 X4 (X2.heap.size) (.slice A6 L6 c6) (.slice A7 L7 c7) (.int .i64 z2.nn) (.int .i64 z2.ne)).heap[j]? = X4.heap[j]? := fun j hj => set4_heap _ _ _ _ _ _ _ hj
        exact CUT.out _ _ _ _ _ _ _ _ _ _ _ _ _ _ _ _ _ _ _ _ _ _ _ _ _ _ _ _ _ _ _ _ _ _ _ _ _ _ _ _ _ _ _ _ _ _ _ _ _ _ _ _ _ _ _ _ _ _ _ _ _ _ _ _ _ _ (X2.heap.size) A6 L6 c6 A7 L7 c7 A8 c8 svs (set4 X4 (X2.heap.size) _ _ _ _) (set4_below KX4.out hb9 _ _ _ _) hb9 (by rw [set4_size]; exact n9) (B9.out.set _ _ _ _)
          ((GS.out.move (w' := set4 X4 (X2.heap.size) _ _ _ _) fun j hj _ => hs4 j (by (try simp only at hj); omega)).mono fun j hj _ => by (try simp only at hj ⊢); omega)
          ((OS.out.move (w' := set4 X4 (X2.heap.size) _ _ _ _) fun j hj _ => hs4 j (by (try simp only at hj); omega)).mono fun j hj _ => by (try simp only at hj ⊢); omega)
          ((VS.out.move (w' := set4 X4 (X2.heap.size) _ _ _ _) fun j hj _ => hs4 j (by (try simp only at hj); omega)).mono fun j hj _ => by (try simp only at hj ⊢); omega)
    · refine Lib.hid ?_
      obtain ⟨X2, hV⟩ : ∃ V, V = X1.alloc (.cells #[.slice none 0 0, .slice none 0 0, .int .i64 0, .int .i64 0] 27) := ⟨_, rfl⟩
      have hb : Below X1.heap.size X1 X2 := by rw [hV]; exact (Below.refl _ X1).alloc (Nat.le_refl _) _
      have zz := KX1.out.size
      have n9 : X1.heap.size < X2.heap.size := by rw [hV]; simp
      have n9b := n9
      have B9 := Lib.hid (show Box4 X2 X1.heap.size _ _ _ _ from by rw [hV]; exact Box4.made X1 27 (.slice none 0 0) (.slice none 0 0) (.int .i64 0) (.int .i64 0))
      have KX2 := Lib.hid (KX1.out.trans (hb.mono zz))
      have HK2 := Lib.hid (HK1.out.below hb)
      have ONE := Lib.hid (show ∀ k, (Value.slice Av l.length cv).ownBlock = some k → k ≠ X1.heap.size from fun k hk e => by have := OW.out.lt k hk; omega)
      replace OW := Lib.hid (OW.out.below hb)
      have zz2 := hb.size
      go_wp2_with fail
      rw [← hV]
      clear hV hb
      refine tr_on HK2.out ?_
      repeat (refine tr_take (v := ?_) (by simp only [List.getElem?_toArray, List.getElem?_cons_succ, List.getElem?_cons_zero]; rfl) (Or.inl ⟨by rfl, fun W hW => ?_⟩) HK2.out ?_; rotate_left; (have hc := fun b o hb => hW.cell b o trivial hb; clear hW; go_simp; with_reducible rfl); simp only [Act.put, List.setIfInBounds_toArray, List.set_cons_zero, List.set_cons_succ])
      refine tr_step (by simp only [List.getElem?_toArray, List.getElem?_cons_succ, List.getElem?_cons_zero]; rfl) ?_
      go_wp2_with (at_builtin; refine wpList_own_append (ty := tOp) (W := X2) (S := fun k => True) (Sy := fun j => j < w.heap.size) (v := .slice Av l.length cv) (xs := l) (ys := m) rfl _ _ 65 73 40 _ rfl elemOps rfl OW.out A2 m.length c2 rfl (RMU.out.below KX2.out) rfl ?p1 ?p2 trivial (fun k h _ => ⟨trivial, fun e => by have := OB.out k e; omega⟩) ?_)
      case p1 => first | omega | (simp; omega)
      case p2 => unfold maxLen; first | omega | (simp; omega)
      intro v2 X3 ho1 hg1 hor1
      have zz := KX2.out.size
      have KX3 := Lib.hid (show Below U.heap.size U X3 from KX2.out.grown hg1 zz OB.out)
      have HK3 := Lib.hid (show Kept U (fun _ => True) X3 from ⟨KX3.out.size, fun k _ hk => KX3.out.block k hk⟩)
      have OW2 := Lib.hid (show Own tOp 73 X3 (fun _ => True) v2 qs from by rw [HQS.out]; exact ho1)
      replace B9 := Lib.hid (B9.out.keep (hg1.block _ n9 (fun e => ONE.out _ e.symm rfl)))
      replace n9 := Nat.lt_of_lt_of_le n9 hg1.size
      have zz2 := hg1.size
      clear hg1 hor1 ho1 zz OW OB
      obtain ⟨Aw, cw, rfl⟩ := OW2.out.slice
      go_wp2_with fail
      refine tr_on HK3.out ?_
      repeat (refine tr_take (v := ?_) (by simp only [List.getElem?_toArray, List.getElem?_cons_succ, List.getElem?_cons_zero]; rfl) (Or.inl ⟨by rfl, fun W hW => ?_⟩) HK3.out ?_; rotate_left; (have hc := fun b o hb => hW.cell b o trivial hb; clear hW; go_simp; with_reducible rfl); simp only [Act.put, List.setIfInBounds_toArray, List.set_cons_zero, List.set_cons_succ])
      refine tr_step (by simp only [List.getElem?_toArray, List.getElem?_cons_succ, List.getElem?_cons_zero]; rfl) ?_
      go_wp2_with fail
      refine (all_calls X3 _ c qs _ OW2.out.row HOK.out (by rw [HQS.out, List.length_append]; omega)).mono ?_
      rintro e X4 hp
      obtain ⟨A6, L6, c6, A7, L7, c7, A8, c8, svs, rfl, hg, ho, hr, hb⟩ := all_slices hp
      have zz := KX3.out.size
      have KX4 := Lib.hid (KX3.out.trans (hb.mono zz))
      have HK4 := Lib.hid (HK3.out.below hb)
      have GS := Lib.hid (hg.mono (S' := fun k => X3.heap.size ≤ k) fun k hk _ => hk.1)
      have OS := Lib.hid (ho.row)
      have VS := Lib.hid (hr.mono (S' := fun k => X3.heap.size ≤ k) fun k hk _ => hk.1)
      replace B9 := Lib.hid (B9.out.keep (hb.block _ n9))
      replace n9 := Nat.lt_of_lt_of_le n9 hb.size
      have zz2 := hb.size
      clear hp hg ho hr hb OW2
      generalize hz2 : stG c .new qs qs.length = z2 at GS CUT ⊢
      generalize hr2 : resG c .new qs qs.length = ss at VS CUT
      clear hz2 hr2
      go_wp2_with fail
      refine tr_on HK4.out ?_
      repeat (refine tr_take (v := ?_) (by simp only [List.getElem?_toArray, List.getElem?_cons_succ, List.getElem?_cons_zero]; rfl) (Or.inl ⟨by rfl, fun W hW => ?_⟩) HK4.out ?_; rotate_left; (have hc := fun b o hb => hW.cell b o trivial hb; clear hW; go_simp; with_reducible rfl); simp only [Act.put, List.setIfInBounds_toArray, List.set_cons_zero, List.set_cons_succ])
      obtain ⟨y0, y1, y2, y3, yf⟩ := B9.out
      have zz5 := KX4.out.size
      refine tr_step (by simp only [List.getElem?_toArray, List.getElem?_cons_succ, List.getElem?_cons_zero]; rfl) ?_
      go_wp2_with fail
      have ww : w.heap.size < X4.heap.size := by omega
      have hb9 : U.heap.size ≤ X1.heap.size := by have := KX0.out.size; have := KX1.out.size; have := KX2.out.size; have := KX3.out.size; omega
      have hbb : U.heap.size ≤ X3.heap.size := by have := KX0.out.size; have := KX1.out.size; have := KX2.out.size; have := KX3.out.size; omega
      refine tr_on (by repeat (first | (with_reducible exact HK4.out) | with_reducible refine Kept.setCell ?_ (.inl (by simp; try omega)) _)) ?_
      repeat (refine tr_take (v := ?_) (by simp only [List.getElem?_toArray, List.getElem?_cons_succ, List.getElem?_cons_zero]; rfl) (Or.inl ⟨by rfl, fun W hW => ?_⟩) (by repeat (first | (with_reducible exact HK4.out) | with_reducible refine Kept.setCell ?_ (.inl (by simp; try omega)) _)) ?_; rotate_left; (skip; clear hW; go_simp; with_reducible rfl); simp only [Act.put, List.setIfInBounds_toArray, List.set_cons_zero, List.set_cons_succ])
      refine tr_done ?_
      have hs4 : ∀ j, j ≠ X1.heap.size → (set4 X4 (X1.heap.size) (.slice A6 L6 c6) (.slice A7 L7 c7) (.int .i64 z2.nn) (.int .i64 z2.ne)).heap[j]? = X4.heap[j]? := fun j hj => set4_heap _ _ _ _ _ _ _ hj
      exact CUT.out _ _ _ _ _ _ _ _ _ _ _ _ _ _ _ _ _ _ _ _ _ _ _ _ _ _ _ _ _ _ _ _ _ _ _ _ _ _ _ _ _ _ _ _ _ _ _ _ _ _ _ _ _ _ _ _ _ _ _ _ _ _ _ _ _ _ (X1.heap.size) A6 L6 c6 A7 L7 c7 A8 c8 svs (set4 X4 (X1.heap.size) _ _ _ _) (set4_below KX4.out hb9 _ _ _ _) hb9 (by rw [set4_size]; exact n9) (B9.out.set _ _ _ _)
        ((GS.out.move (w' := set4 X4 (X1.heap.size) _ _ _ _) fun j hj _ => hs4 j (by (try simp only at hj); omega)).mono fun j hj _ => by (try simp only at hj ⊢); omega)
        ((OS.out.move (w' := set4 X4 (X1.heap.size) _ _ _ _) fun j hj _ => hs4 j (by (try simp only at hj); omega)).mono fun j hj _ => by (try simp only at hj ⊢); omega)
        ((VS.out.move (w' := set4 X4 (X1.heap.size) _ _ _ _) fun j hj _ => hs4 j (by (try simp only at hj); omega)).mono fun j hj _ => by (try simp only at hj ⊢); omega)
  · refine Lib.hid ?_
    obtain ⟨X1, hV⟩ : ∃ V, V = X0.alloc (.cells #[.slice none 0 0, .slice none 0 0, .int .i64 0, .int .i64 0] 27) := ⟨_, rfl⟩
    have hb : Below X0.heap.size X0 X1 := by rw [hV]; exact (Below.refl _ X0).alloc (Nat.le_refl _) _
    have zz := KX0.out.size
    have n9 : X0.heap.size < X1.heap.size := by rw [hV]; simp
    have n9b := n9
    have B9 := Lib.hid (show Box4 X1 X0.heap.size _ _ _ _ from by rw [hV]; exact Box4.made X0 27 (.slice none 0 0) (.slice none 0 0) (.int .i64 0) (.int .i64 0))
    have KX1 := Lib.hid (KX0.out.trans (hb.mono zz))
    have HK1 := Lib.hid (HK.out.below hb)
    have zz2 := hb.size
    go_wp2_with fail
    rw [← hV]
    clear hV hb
    refine tr_on HK1.out ?_
    repeat (refine tr_take (v := ?_) (by simp only [List.getElem?_toArray, List.getElem?_cons_succ, List.getElem?_cons_zero]; rfl) (Or.inl ⟨by rfl, fun W hW => ?_⟩) HK1.out ?_; rotate_left; (have hc := fun b o hb => hW.cell b o trivial hb; clear hW; go_simp; with_reducible rfl); simp only [Act.put, List.setIfInBounds_toArray, List.set_cons_zero, List.set_cons_succ])
    refine tr_step (by simp only [List.getElem?_toArray, List.getElem?_cons_succ, List.getElem?_cons_zero]; rfl) ?_
    go_wp2_with (at_builtin; refine wpList_own_append (ty := tOp) (W := X1) (S := fun k => True) (Sy := fun j => j < w.heap.size) (v := .slice none 0 0) (xs := []) (ys := l) rfl _ _ 65 73 40 _ rfl elemOps rfl (Own.nil _ _ _ _) A1 l.length c1 rfl (RLU.out.below KX1.out) rfl ?p1 ?p2 trivial (fun k h _ => ⟨trivial, by simp [Value.ownBlock]⟩) ?_)
    case p1 => first | omega | (simp; omega)
    case p2 => unfold maxLen; first | omega | (simp; omega)
    intro v1 X2 ho1 hg1 hor1
    have zz := KX1.out.size
    have KX2 := Lib.hid (show Below U.heap.size U X2 from KX1.out.grown hg1 zz (fun k hk => by simp [Value.ownBlock] at hk))
    have HK2 := Lib.hid (show Kept U (fun _ => True) X2 from ⟨KX2.out.size, fun k _ hk => KX2.out.block k hk⟩)
    have OW := Lib.hid (show Own tOp 73 X2 (fun _ => True) v1 l from ho1)
    have OB := Lib.hid (show ∀ k, v1.ownBlock = some k → U.heap.size ≤ k from fun k hk => by
      rcases hor1 with h | h
      · rw [h] at hk; simp [Value.ownBlock] at hk
      · have h9 := Option.some.inj (h.symm.trans hk); omega)
    have ONE := Lib.hid (show ∀ k, v1.ownBlock = some k → k ≠ X0.heap.size from fun k hk e => by
      rcases hor1 with h | h
      · rw [h] at hk; simp [Value.ownBlock] at hk
      · have h9 := Option.some.inj (h.symm.trans hk); omega)
    replace B9 := Lib.hid (B9.out.keep (hg1.block _ n9 (by simp [Value.ownBlock])))
    replace n9 := Nat.lt_of_lt_of_le n9 hg1.size
    have zz2 := hg1.size
    clear hg1 hor1 ho1 zz
    obtain ⟨Av, cv, rfl⟩ := OW.out.slice
    go_wp2_with fail
    refine tr_on HK2.out ?_
    repeat (refine tr_take (v := ?_) (by simp only [List.getElem?_toArray, List.getElem?_cons_succ, List.getElem?_cons_zero]; rfl) (Or.inl ⟨by rfl, fun W hW => ?_⟩) HK2.out ?_; rotate_left; (have hc := fun b o hb => hW.cell b o trivial hb; clear hW; go_simp; with_reducible rfl); simp only [Act.put, List.setIfInBounds_toArray, List.set_cons_zero, List.set_cons_succ])
    refine tr_step (by simp only [List.getElem?_toArray, List.getElem?_cons_succ, List.getElem?_cons_zero]; rfl) ?_
    go_wp2_with (at_builtin; refine wpList_own_append (ty := tOp) (W := X2) (S := fun k => True) (Sy := fun j => j < w.heap.size) (v := .slice Av l.length cv) (xs := l) (ys := m) rfl _ _ 65 73 40 _ rfl elemOps rfl OW.out A2 m.length c2 rfl (RMU.out.below KX2.out) rfl ?p1 ?p2 trivial (fun k h _ => ⟨trivial, fun e => by have := OB.out k e; omega⟩) ?_)
    case p1 => first | omega | (simp; omega)
    case p2 => unfold maxLen; first | omega | (simp; omega)
    intro v2 X3 ho1 hg1 hor1
    have zz := KX2.out.size
    have KX3 := Lib.hid (show Below U.heap.size U X3 from KX2.out.grown hg1 zz OB.out)
    have HK3 := Lib.hid (show Kept U (fun _ => True) X3 from ⟨KX3.out.size, fun k _ hk => KX3.out.block k hk⟩)
    have OW2 := Lib.hid (show Own tOp 73 X3 (fun _ => True) v2 qs from by rw [HQS.out]; exact ho1)
    replace B9 := Lib.hid (B9.out.keep (hg1.block _ n9 (fun e => ONE.out _ e.symm rfl)))
    replace n9 := Nat.lt_of_lt_of_le n9 hg1.size
    have zz2 := hg1.size
    clear hg1 hor1 ho1 zz OW OB
    obtain ⟨Aw, cw, rfl⟩ := OW2.out.slice
    go_wp2_with fail
    refine tr_on HK3.out ?_
    repeat (refine tr_take (v := ?_) (by simp only [List.getElem?_toArray, List.getElem?_cons_succ, List.getElem?_cons_zero]; rfl) (Or.inl ⟨by rfl, fun W hW => ?_⟩) HK3.out ?_; rotate_left; (have hc := fun b o hb => hW.cell b o trivial hb; clear hW; go_simp; with_reducible rfl); simp only [Act.put, List.setIfInBounds_toArray, List.set_cons_zero, List.set_cons_succ])
    refine tr_step (by simp only [List.getElem?_toArray, List.getElem?_cons_succ, List.getElem?_cons_zero]; rfl) ?_
    go_wp2_with fail
    refine (all_calls X3 _ c qs _ OW2.out.row HOK.out (by rw [HQS.out, List.length_append]; omega)).mono ?_
    rintro e X4 hp
    obtain ⟨A6, L6, c6, A7, L7, c7, A8, c8, svs, rfl, hg, ho, hr, hb⟩ := all_slices hp
    have zz := KX3.out.size
    have KX4 := Lib.hid (KX3.out.trans (hb.mono zz))
    have HK4 := Lib.hid (HK3.out.below hb)
    have GS := Lib.hid (hg.mono (S' := fun k => X3.heap.size ≤ k) fun k hk _ => hk.1)
    have OS := Lib.hid (ho.row)
    have VS := Lib.hid (hr.mono (S' := fun k => X3.heap.size ≤ k) fun k hk _ => hk.1)
    replace B9 := Lib.hid (B9.out.keep (hb.block _ n9))
    replace n9 := Nat.lt_of_lt_of_le n9 hb.size
    have zz2 := hb.size
    clear hp hg ho hr hb OW2
    generalize hz2 : stG c .new qs qs.length = z2 at GS CUT ⊢
    generalize hr2 : resG c .new qs qs.length = ss at VS CUT
    clear hz2 hr2
    go_wp2_with fail
    refine tr_on HK4.out ?_
    repeat (refine tr_take (v := ?_) (by simp only [List.getElem?_toArray, List.getElem?_cons_succ, List.getElem?_cons_zero]; rfl) (Or.inl ⟨by rfl, fun W hW => ?_⟩) HK4.out ?_; rotate_left; (have hc := fun b o hb => hW.cell b o trivial hb; clear hW; go_simp; with_reducible rfl); simp only [Act.put, List.setIfInBounds_toArray, List.set_cons_zero, List.set_cons_succ])
    obtain ⟨y0, y1, y2, y3, yf⟩ := B9.out
    have zz5 := KX4.out.size
    refine tr_step (by simp only [List.getElem?_toArray, List.getElem?_cons_succ, List.getElem?_cons_zero]; rfl) ?_
    go_wp2_with fail
    have ww : w.heap.size < X4.heap.size := by omega
    have hb9 : U.heap.size ≤ X0.heap.size := by have := KX0.out.size; have := KX1.out.size; have := KX2.out.size; have := KX3.out.size; omega
    have hbb : U.heap.size ≤ X3.heap.size := by have := KX0.out.size; have := KX1.out.size; have := KX2.out.size; have := KX3.out.size; omega
    refine tr_on (by repeat (first | (with_reducible exact HK4.out) | with_reducible refine Kept.setCell ?_ (.inl (by simp; try omega)) _)) ?_
    repeat (refine tr_take (v := ?_) (by simp only [List.getElem?_toArray, List.getElem?_cons_succ, List.getElem?_cons_zero]; rfl) (Or.inl ⟨by rfl, fun W hW => ?_⟩) (by repeat (first | (with_reducible exact HK4.out) | with_reducible refine Kept.setCell ?_ (.inl (by simp; try omega)) _)) ?_; rotate_left; (skip; clear hW; go_simp; with_reducible rfl); simp only [Act.put, List.setIfInBounds_toArray, List.set_cons_zero, List.set_cons_succ])
    refine tr_done ?_
    have hs4 : ∀ j, j ≠ X0.heap.size → (set4 X4 (X0.heap.size) (.slice A6 L6 c6) (.slice A7 L7 c7) (.int .i64 z2.nn) (.int .i64 z2.ne)).heap[j]? = X4.heap[j]? := fun j hj => set4_heap _ _ _ _ _ _ _ hj
    exact CUT.out _ _ _ _ _ _ _ _ _ _ _ _ _ _ _ _ _ _ _ _ _ _ _ _ _ _ _ _ _ _ _ _ _ _ _ _ _ _ _ _ _ _ _ _ _ _ _ _ _ _ _ _ _ _ _ _ _ _ _ _ _ _ _ _ _ _ (X0.heap.size) A6 L6 c6 A7 L7 c7 A8 c8 svs (set4 X4 (X0.heap.size) _ _ _ _) (set4_below KX4.out hb9 _ _ _ _) hb9 (by rw [set4_size]; exact n9) (B9.out.set _ _ _ _)
      ((GS.out.move (w' := set4 X4 (X0.heap.size) _ _ _ _) fun j hj _ => hs4 j (by (try simp only at hj); omega)).mono fun j hj _ => by (try simp only at hj ⊢); omega)
      ((OS.out.move (w' := set4 X4 (X0.heap.size) _ _ _ _) fun j hj _ => hs4 j (by (try simp only at hj); omega)).mono fun j hj _ => by (try simp only at hj ⊢); omega)
      ((VS.out.move (w' := set4 X4 (X0.heap.size) _ _ _ _) fun j hj _ => hs4 j (by (try simp only at hj); omega)).mono fun j hj _ => by (try simp only at hj ⊢); omega)
end Go.Proofs.Ytpehmmdbjakkpaa
