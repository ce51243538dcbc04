/- The chapter's example and guards: SameAll, plain, live, may, few. -/
import Derived.Test.YtpehmmdbjakkpaaRefAllA
namespace Go.Proofs.Ytpehmmdbjakkpaa
open Go.RowKit Go.Shelf
set_option linter.unusedSimpArgs false
set_option linter.unusedVariables false
set_option maxRecDepth 100000 in
set_option maxHeartbeats 8000000 in
theorem sameAll_calls (w : World) (S1 S2 S3 S4 : Nat → Prop) (v u : Value) (rvs svs : List RV) (rs ss : List ResD) (h1 : Row tRV w S1 v rvs) (h2 : RVs w S2 rvs rs) (h3 : Row tRV w S3 u svs) (h4 : RVs w S4 svs ss) (hl : rvs.length ≤ 100000) : Calls Try.prog 55 #[v, u] w (BPost w (rs = ss)) := by
  have hl2 := h3.len
  unfold maxLen at hl2
  obtain ⟨A1, c1, rfl⟩ := h1.slice
  obtain ⟨A2, c2, rfl⟩ := h3.slice
  have H1 := Lib.hid h1
  have H2 := Lib.hid h2
  have H3 := Lib.hid h3
  have H4 := Lib.hid h4
  clear h1 h2 h3 h4
  go_enter Try.func55, Try.ntmps55
  by_cases hn : rvs.length = svs.length
  case neg =>
    have HN := Lib.hid (show ¬ rs = ss from fun e => hn (by rw [H2.out.1, H4.out.1, e]))
    have hd : ((rvs.length : Int) != (svs.length : Int)) = true := by simp; omega
    clear hn
    go_wp2
    go_ret
    exact ⟨false, rfl, ⟨fun e => (by cases e), fun h => absurd h HN.out⟩, Below.refl _ _⟩
  have hd : ((rvs.length : Int) != (svs.length : Int)) = false := by simp; omega
  obtain ⟨n, hnn⟩ : ∃ n, n = rvs.length := ⟨_, rfl⟩
  obtain ⟨m, hmm⟩ : ∃ m, m = svs.length := ⟨_, rfl⟩
  rw [← hnn] at hn hd H1 hl ⊢
  rw [← hmm] at hn hd H3 hl2 ⊢
  have HL1 := Lib.hid hnn
  have HL2 := Lib.hid hmm
  clear hnn hmm hd
  subst hn
  go_wp2
  go_loopw [13] (fun p wr => ∃ k : Nat, k ≤ n ∧ p = .int .i64 (k : Int) ∧ Hid (∀ i, i < k → rs[i]? = ss[i]?) ∧ Hid (Below w.heap.size w wr)) (fun p _ => n - (intOf p).toNat)
  case atStart => exact ⟨0, Nat.zero_le _, rfl, fun i hi => by omega, Below.refl _ _⟩
  case round =>
    obtain ⟨wa, rfl⟩ : ∃ wa, wa = wr := ⟨wr, rfl⟩
    obtain ⟨k, hk, rfl, he, hb⟩ := hrel
    by_cases hlt : k < n
    case neg =>
      obtain rfl : k = n := by omega
      have HT := Lib.hid (show rs = ss from List.ext_getElem? fun i => by
        rcases Nat.lt_or_ge i k with h | h
        · exact he.out i h
        · rw [List.getElem?_eq_none (by rw [← H2.out.1, ← HL1.out]; exact h), List.getElem?_eq_none (by rw [← H4.out.1, ← HL2.out]; exact h)])
      go_wp2
      go_ret
      exact ⟨true, rfl, ⟨fun _ => HT.out, fun _ => rfl⟩, hb.out⟩
    obtain ⟨x, hx⟩ := getElem?_of_lt (show k < rvs.length by rw [← HL1.out]; exact hlt)
    obtain ⟨y, hy⟩ := getElem?_of_lt (show k < svs.length by rw [← HL2.out]; exact hlt)
    obtain ⟨r, hr⟩ := getElem?_of_lt (show k < rs.length by rw [← H2.out.1, ← HL1.out]; exact hlt)
    obtain ⟨s, hs⟩ := getElem?_of_lt (show k < ss.length by rw [← H4.out.1, ← HL2.out]; exact hlt)
    have HX := Lib.hid (H2.out.2 k x r hx hr)
    have HY := Lib.hid (H4.out.2 k y s hy hs)
    obtain ⟨b1, o1, rfl, _, hl1, x0, x1, x2, x3, x4⟩ := (H1.out.below hb.out).atRV hx
    obtain ⟨b2, o2, rfl, _, hl2', y0, y1, y2, y3, y4⟩ := (H3.out.below hb.out).atRV hy
    have HR := Lib.hid hr
    have HS := Lib.hid hs
    clear hx hy hr hs
    go_wp2_with fail
    refine wp_region_schedK (fun k => True) [(0, true), (1, true), (2, true), (3, true), (4, true), (5, true), (6, true), (7, true), (8, false), (9, true)] (by kernel_rfl) (by kernel_rfl) (fun hS => ?_)
    have HK := Lib.hid hS
    clear hS
    have KB := Lib.hid (Below.refl wa.heap.size wa).drew
    revert HK KB
    generalize wa.drew = Wd
    intro HK KB
    repeat (refine sched_take (v := ?_) (by simp only [List.getElem?_toArray, List.getElem?_cons_succ, List.getElem?_cons_zero]; rfl) (Or.inl ⟨by rfl, fun W hW => ?_⟩) HK.out ?_; rotate_left; (have hc := fun b o hb => hW.cell b o trivial hb; clear hW; go_simp; with_reducible rfl); simp only [Act.put, List.setIfInBounds_toArray, List.set_cons_zero, List.set_cons_succ])
    refine sched_step (by simp only [List.getElem?_toArray, List.getElem?_cons_succ, List.getElem?_cons_zero]; rfl) ?_
    go_wp2_with fail
    have K1 := Lib.hid (hb.out.trans (KB.out.mono hb.out.size))
    refine (refSameR_calls Wd S2 S4 r s _ _ (((HX.out.res.below hb.out).below KB.out)) (((HY.out.res.below hb.out).below KB.out))).mono ?_
    rintro e w2 ⟨q, rfl, hq, hb2⟩
    have HK2 := Lib.hid (HK.out.below hb2)
    have K2 := Lib.hid (K1.out.trans (hb2.mono K1.out.size))
    have HQ := Lib.hid hq
    clear hb2 hq x0 x1 x2 x3 x4 y0 y1 y2 y3 y4
    cases q
    · have HN := Lib.hid (show ¬ rs = ss from fun e => by
        have h1 := HR.out
        rw [e, HS.out] at h1
        injection h1 with h1
        have := HQ.out.2 h1.symm
        cases this)
      go_wp2_with fail
      refine sched_on HK2.out ?_
      repeat (refine sched_take (v := ?_) (by simp only [List.getElem?_toArray, List.getElem?_cons_succ, List.getElem?_cons_zero]; rfl) (Or.inl ⟨by rfl, fun W hW => ?_⟩) HK2.out ?_; rotate_left; (skip; clear hW; go_simp; with_reducible rfl); simp only [Act.put, List.setIfInBounds_toArray, List.set_cons_zero, List.set_cons_succ])
      refine sched_done ?_
      go_wp2
      go_ret
      exact ⟨false, rfl, ⟨fun e => (by cases e), fun h => absurd h HN.out⟩, K2.out⟩
    · go_wp2_with fail
      refine sched_on HK2.out ?_
      repeat (refine sched_take (v := ?_) (by simp only [List.getElem?_toArray, List.getElem?_cons_succ, List.getElem?_cons_zero]; rfl) (Or.inl ⟨by rfl, fun W hW => ?_⟩) HK2.out ?_; rotate_left; (skip; clear hW; go_simp; with_reducible rfl); simp only [Act.put, List.setIfInBounds_toArray, List.set_cons_zero, List.set_cons_succ])
      refine sched_done ?_
      go_wp2
      go_roundw
      case rel => exact ⟨k + 1, by omega, by first | (go_num; done) | (go_num; omega), Lib.hid fun i hi => by
        rcases Nat.lt_succ_iff_lt_or_eq.1 hi with h | rfl
        · exact he.out i h
        · rw [HR.out, HS.out, HQ.out.1 trivial], K2⟩
      case measure => simp [intOf]; omega
theorem plain11_calls (w : World) : Calls Try.prog 103 #[] w fun e w' => e = .returned (CfgD.val ⟨4, 4, 4, 4, 4⟩) ∧ Below w.heap.size w w' := by
  go_enter Try.func103, Try.ntmps103
  go_wp2
  refine bodyPost_ret (v := .agg #[.int .i64 4, .int .i64 4, .int .i64 4, .int .i64 4, .int .i64 4]) (by simp [results, Try.results103, go_sem]; try rfl) rfl ⟨rfl, (Below.refl _ _).alloc (Nat.le_refl _) _⟩
set_option maxRecDepth 100000 in
set_option maxHeartbeats 8000000 in
theorem may11_calls (w : World) (S : Nat → Prop) (c : CfgD) (g : GraphD) (vn ve : Value) (h : Gr w S g vn ve) : Calls Try.prog 56 #[c.val, .agg #[vn, ve, .int .i64 g.nn, .int .i64 g.ne]] w fun e w' => ∃ b : Bool, e = .returned (.bool b) ∧ (b = true → g.few ∧ MayG c g) ∧ Below w.heap.size w w' := by
  obtain ⟨⟨A1, c1, rfl⟩, ⟨A2, c2, rfl⟩⟩ := h.slices
  have hW0 : Below w.heap.size w ((w.alloc (.cells #[.int .i64 c.nodes, .int .i64 c.edges, .int .i64 c.props, .int .i64 c.ids, .int .i64 c.eids] 23)).alloc (.cells #[.slice A1 g.nodes.length c1, .slice A2 g.edges.length c2, .int .i64 g.nn, .int .i64 g.ne] 27)) := ((Below.refl w.heap.size w).alloc (Nat.le_refl _) _).alloc (by simp) _
  have KW := Lib.hid hW0
  have H0 := Lib.hid (h.below hW0)
  clear hW0 h
  unfold CfgD.val
  go_enter Try.func56, Try.ntmps56
  go_wp2_with fail
  refine (few_calls _ S g _ _ H0.out).mono ?_
  rintro e w1 ⟨b, rfl, hb, hb1⟩
  have s1 := hb1.size
  have hc1 := (bcell hb1).1
  have K1 := Lib.hid (KW.out.trans (hb1.mono (by simp; omega)))
  have H1 := Lib.hid (H0.out.below hb1)
  have HB := Lib.hid hb
  clear hb1 hb
  simp only [World.size_alloc] at s1 hc1
  have g1 : w.heap.size < w.heap.size + 1 + 1 := by omega
  have g2 : w.heap.size + 1 < w.heap.size + 1 + 1 := by omega
  cases b
  · go_wp2
    go_ret
    exact ⟨false, rfl, (fun e => by cases e), K1.out⟩
  go_wp2_with fail
  refine (refCheck_calls _ S c g _ _ H1.out (HB.out (by trivial))).mono ?_
  rintro e w2 ⟨x, rfl, hx, hb2⟩
  have K2 := Lib.hid (K1.out.trans (hb2.mono K1.out.size))
  have HX := Lib.hid (show (x == 0) = true → g.few ∧ MayG c g from fun e => ⟨HB.out (by trivial), hx (beq_iff_eq.mp e)⟩)
  clear hb2 hx hc1
  go_wp2
  go_ret
  exact ⟨_, rfl, HX.out, K2.out⟩
/-- Yes or no. -/
def AnyB (w : World) (e : Ending) (w' : World) : Prop := ∃ b : Bool, e = .returned (.bool b) ∧ Below w.heap.size w w'
set_option maxRecDepth 100000 in
set_option maxHeartbeats 8000000 in
theorem few11_calls (w : World) (S : Nat → Prop) (r : ResD) (v : Value) (h : Res w S r v) : Calls Try.prog 62 #[v] w (AnyB w) := by
  obtain ⟨a1, d1, a2, d2, a3, d3, rfl, _, _, _⟩ := h.slices
  have KE := Lib.hid ((Below.refl w.heap.size w).alloc (Nat.le_refl _) (.cells #[.int .i64 r.st, .int .i64 r.id, .slice a1 r.ps.length d1, .slice a2 r.os.length d2, .slice a3 r.is.length d3] 75))
  go_enter Try.func62, Try.ntmps62
  by_cases h1 : (r.ps.length : Int) ≤ 100
  case neg =>
    have hd := decide_eq_false h1
    go_wp2
    go_ret
    first | exact ⟨_, rfl, KE.out⟩ | exact KE.out
  by_cases h2 : (r.os.length : Int) ≤ 100
  case neg =>
    have hd := decide_eq_true h1
    have hd2 := decide_eq_false h2
    go_wp2
    go_ret
    first | exact ⟨_, rfl, KE.out⟩ | exact KE.out
  have hd := decide_eq_true h1
  have hd2 := decide_eq_true h2
  go_wp2
  go_ret
  first | exact ⟨_, rfl, KE.out⟩ | exact KE.out
theorem run3 : resG ⟨4, 4, 4, 4, 4⟩ .new [⟨1, 0, 0, 0, 0⟩, ⟨1, 0, 0, 0, 0⟩, ⟨2, 1, 2, 0, 0⟩] 3 = [⟨0, 1, [], [], []⟩, ⟨0, 2, [], [], []⟩, ⟨0, 1, [], [], []⟩] := by rfl
theorem ops_made (W : World) (S : Nat → Prop) (hS : S W.heap.size) : Row tOp (W.alloc (.cells #[.int .i64 1, .int .i64 0, .int .i64 0, .int .i64 0, .int .i64 0, .int .i64 1, .int .i64 0, .int .i64 0, .int .i64 0, .int .i64 0, .int .i64 2, .int .i64 1, .int .i64 2, .int .i64 0, .int .i64 0] 73)) S (.slice (some ⟨W.heap.size, 0, none⟩) 3 3) [⟨1, 0, 0, 0, 0⟩, ⟨1, 0, 0, 0, 0⟩, ⟨2, 1, 2, 0, 0⟩] := by
  refine ⟨_, 3, rfl, Nat.le_refl _, by unfold maxLen; omega, by simp, .inr ⟨_, _, rfl, hS, by simp, fun j x hj => ⟨x.cells, rfl, fun i u hu => ?_⟩⟩⟩
  have h1 := heap_alloc_new W (.cells #[.int .i64 1, .int .i64 0, .int .i64 0, .int .i64 0, .int .i64 0, .int .i64 1, .int .i64 0, .int .i64 0, .int .i64 0, .int .i64 0, .int .i64 2, .int .i64 1, .int .i64 2, .int .i64 0, .int .i64 0] 73)
  have hi : i < 5 := (List.getElem?_eq_some_iff.1 hu).1
  rw [cell_of_row _ _ _ _ _ _ h1]
  have hj3 : j < 3 := (List.getElem?_eq_some_iff.1 hj).1
  rcases (by omega : j = 0 ∨ j = 1 ∨ j = 2) with rfl | rfl | rfl <;> (injection hj with hj; subst hj; rcases (by omega : i = 0 ∨ i = 1 ∨ i = 2 ∨ i = 3 ∨ i = 4) with rfl | rfl | rfl | rfl | rfl <;> exact hu)
set_option maxRecDepth 100000 in
set_option maxHeartbeats 8000000 in
theorem live11_calls (w : World) : Calls Try.prog 51 #[] w fun e w' => e = .returned (.bool true) ∧ Below w.heap.size w w' := by
  go_enter Try.func51, Try.ntmps51
  go_wp2_with fail
  refine (plain11_calls w).mono ?_
  rintro e w1 ⟨rfl, hb⟩
  have s1 := hb.size
  have K1 := Lib.hid hb
  clear hb
  unfold CfgD.val
  go_wp2_with fail
  have hr := ops_made w1 (fun _ => True) trivial
  have hb2 : Below w1.heap.size w1 (w1.alloc (.cells #[.int .i64 1, .int .i64 0, .int .i64 0, .int .i64 0, .int .i64 0, .int .i64 1, .int .i64 0, .int .i64 0, .int .i64 0, .int .i64 0, .int .i64 2, .int .i64 1, .int .i64 2, .int .i64 0, .int .i64 0] 73)) := (Below.refl _ _).alloc (Nat.le_refl _) _
  have K2 := Lib.hid (K1.out.trans (hb2.mono s1))
  refine (all_calls _ _ ⟨4, 4, 4, 4, 4⟩ [⟨1, 0, 0, 0, 0⟩, ⟨1, 0, 0, 0, 0⟩, ⟨2, 1, 2, 0, 0⟩] _ hr ⟨by decide, by decide, by decide, by decide, by decide⟩ (by decide)).mono ?_
  have hrun := run3
  revert hrun
  show _ → ∀ e w', AllPost _ (stG _ _ _ 3) (resG _ _ _ 3) e w' → _
  generalize stG (⟨4, 4, 4, 4, 4⟩ : CfgD) .new [⟨1, 0, 0, 0, 0⟩, ⟨1, 0, 0, 0, 0⟩, ⟨2, 1, 2, 0, 0⟩] 3 = z
  generalize resG (⟨4, 4, 4, 4, 4⟩ : CfgD) .new [⟨1, 0, 0, 0, 0⟩, ⟨1, 0, 0, 0, 0⟩, ⟨2, 1, 2, 0, 0⟩] 3 = rs
  rintro rfl e w3 ⟨vn, ve, v, rvs, rfl, hg, ho, hrv, hb3⟩
  obtain ⟨⟨A3, L3, c3, rfl⟩, A4, L4, c4, rfl⟩ := hg.sl3
  obtain ⟨A5, c5, rfl⟩ := ho.slice
  have hl3 : rvs.length = 3 := hrv.1
  obtain ⟨x, hx⟩ := getElem?_of_lt (show 0 < rvs.length by omega)
  obtain ⟨y, hy⟩ := getElem?_of_lt (show 1 < rvs.length by omega)
  obtain ⟨t, ht⟩ := getElem?_of_lt (show 2 < rvs.length by omega)
  have i0 : x.id = 1 := (hrv.2 0 x _ hx rfl).id
  have i1 : y.id = 2 := (hrv.2 1 y _ hy rfl).id
  have i2 : t.id = 1 := (hrv.2 2 t _ ht rfl).id
  have i3 : t.st = 0 := (hrv.2 2 t _ ht rfl).st
  obtain ⟨b, off, rfl, _, hbl, _, m0, _⟩ := ho.row.atRV hx
  obtain ⟨b', off', e1, _, _, _, m1, _⟩ := ho.row.atRV hy
  obtain ⟨b'', off'', e2, _, _, m2, m3, _⟩ := ho.row.atRV ht
  injection e1 with e1
  injection e1 with e1 e1'
  injection e2 with e2
  injection e2 with e2 e2'
  subst e1 e1' e2 e2'
  rw [i0] at m0
  rw [i1] at m1
  rw [i3] at m2
  rw [i2] at m3
  simp only [Nat.zero_mul, Nat.one_mul, Nat.add_zero, Nat.reduceMul] at m0 m1 m2 m3
  have s3 := hb3.size
  have K3 := Lib.hid (K2.out.trans (hb3.mono K2.out.size))
  rw [hl3]
  have K4 := Lib.hid (K3.out.alloc (K3.out.size) (.cells #[.slice A3 L3 c3, .slice A4 L4 c4, .int .i64 z.nn, .int .i64 z.ne] 27))
  clear hx hy ht i0 i1 i2 i3 hg ho hrv hb3 hb2 hr hl3
  go_wp2
  go_ret
  exact ⟨rfl, K4.out⟩
end Go.Proofs.Ytpehmmdbjakkpaa
