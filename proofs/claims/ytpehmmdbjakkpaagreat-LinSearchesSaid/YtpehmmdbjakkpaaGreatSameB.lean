/- graph.Same: any two graphs. -/
import Derived.Test.YtpehmmdbjakkpaaGreatCheckM
import Derived.Test.YtpehmmdbjakkpaaGreatEqM
namespace Go.Proofs.YtpehmmdbjakkpaaGreat
open Go.RowKit Go.Shelf
set_option linter.unusedSimpArgs false
set_option linter.unusedVariables false
set_option maxRecDepth 20000 in
set_option maxHeartbeats 4000000 in
theorem sameC_calls (w : World) (S : Nat → Prop) (u v : NV) (x y : NodeD) (hu : u.id = x.id ∧ Row tP w S (.slice u.A u.n u.c) x.ps) (hv : v.id = y.id ∧ Row tP w S (.slice v.A v.n v.c) y.ps) :
  Calls Tryz.prog 46 #[.agg #[.int .i64 u.id, .slice u.A u.n u.c], .agg #[.int .i64 v.id, .slice v.A v.n v.c]] w fun e w' => e = .returned (.bool (decide (x = y))) ∧ Below w.heap.size w w' := by
 have hE : decide (x = y) = (u.id == v.id && decide (x.ps = y.ps)) := by
  obtain ⟨xi, xp⟩ := x
  obtain ⟨yi, yp⟩ := y
  simp only [NodeD.mk.injEq]
  rw [hu.1, hv.1, Bool.eq_iff_iff]
  simp
 have HE := Lib.hid hE
 have KB := Lib.hid (((Below.refl w.heap.size w).alloc (Nat.le_refl _) (.cells #[.int .i64 u.id, .slice u.A u.n u.c] 72)).alloc (by simp) (.cells #[.int .i64 v.id, .slice v.A v.n v.c] 72))
 have H1 := Lib.hid (hu.2.below KB.out)
 have H2 := Lib.hid (hv.2.below KB.out)
 clear hE hu hv
 have g1 : w.heap.size < w.heap.size + 1 + 1 := by omega
 go_enter Tryz.func46, Tryz.ntmps46
 by_cases hid : u.id = v.id
 ·
  have HE2 := Lib.hid (show decide (x = y) = decide (x.ps = y.ps) by rw [HE.out]; simp [hid])
  replace hid : (u.id == v.id) = true := beq_iff_eq.mpr hid
  go_wp2_with fail
  refine (eqPairs_calls _ S _ _ x.ps y.ps H1.out H2.out).mono ?_
  rintro e w1 ⟨rfl, hb⟩
  have K1 := Lib.hid (KB.out.trans (hb.mono KB.out.size))
  clear hb
  generalize decide (x.ps = y.ps) = b at *
  go_wp2
  go_ret
  exact ⟨by rw [HE2.out]; rfl, K1.out⟩
 ·
  have HE2 := Lib.hid (show decide (x = y) = false by rw [HE.out]; simp [hid])
  replace hid : (u.id == v.id) = false := beq_eq_false_iff_ne.mpr hid
  go_wp2
  go_ret
  exact ⟨by rw [HE2.out]; rfl, KB.out⟩
theorem sameC_enters : Enters Tryz.prog 46 := enters_of Tryz.func46 (by kernel_rfl) rfl
set_option maxRecDepth 20000 in
set_option maxHeartbeats 4000000 in
theorem equalN_calls (w : World) (S : Nat → Prop) (v1 v2 : Value) (us vs : List NV) (xs ys : List NodeD) (h1 : Row tNV w S v1 us) (h2 : Row tNV w S v2 vs) (n1 : NVs w S us xs) (n2 : NVs w S vs ys) :
  Calls Tryz.prog 48 #[v1, v2, .func (.func 46) #[] #[]] w (BPost w (xs = ys)) := by
 obtain ⟨A1, c1, rfl⟩ := h1.slice
 obtain ⟨A2, c2, rfl⟩ := h2.slice
 have hl1 := h1.len
 have hl2 := h2.len
 unfold maxLen at hl1 hl2
 have H1 := Lib.hid h1
 have H2 := Lib.hid h2
 have N1 := Lib.hid n1
 have N2 := Lib.hid n2
 have L1 := Lib.hid n1.len
 have L2 := Lib.hid n2.len
 have eg' : ∀ args w, (callFunc 46 args).run Tryz.prog w = .ok (.enter 46 args) w := sameC_enters
 clear h1 h2 n1 n2
 by_cases hl : us.length = vs.length
 case neg =>
  have HN := Lib.hid (show ¬ xs = ys from fun e => hl (by rw [L1.out, L2.out, e]))
  go_enter Tryz.func48, Tryz.ntmps48
  have hd : ¬ (us.length : Int) = (vs.length : Int) := by omega
  go_wp2
  refine bodyPost_ret (v := .bool false) (by simp [results, Tryz.results48, go_sem]; try rfl) rfl ⟨false, rfl, ⟨fun e => (by cases e), fun h => absurd h HN.out⟩, Below.refl _ _⟩
 obtain ⟨n, hn⟩ : ∃ n, n = us.length := ⟨_, rfl⟩
 have hn2 : n = vs.length := hn.trans hl
 rw [← hn] at L1 hl1 ⊢
 rw [← hn2] at L2 hl2 ⊢
 have HN1 := Lib.hid hn
 have HN2 := Lib.hid hn2
 clear hn hn2 hl
 go_enter Tryz.func48, Tryz.ntmps48
 go_wp2
 go_loopw [17] (fun q wr => ∃ k : Nat, k ≤ n ∧ q = .int .i64 (k : Int) ∧ Hid (∀ i, i < k → xs[i]? = ys[i]?) ∧ Hid (Below w.heap.size w wr)) (fun q _ => n - (intOf q).toNat)
 case atStart => exact ⟨0, by omega, rfl, (fun i h => by omega), Below.refl _ _⟩
 case round =>
  obtain ⟨wa, rfl⟩ : ∃ wa, wa = wr := ⟨wr, rfl⟩
  obtain ⟨k, hk, rfl, hse, hb⟩ := hrel
  have hwa := hb.out.size
  by_cases hlt : k < n
  case neg =>
   have HY := Lib.hid (show xs = ys from eq_of_getElem? (by rw [← L1.out, ← L2.out]) fun j hj => hse.out j (by have := L1.out; omega))
   obtain rfl : k = n := by omega
   go_wp2
   refine bodyPost_ret (v := .bool true) (by simp [results, Tryz.results48, go_sem]; try rfl) rfl ⟨true, rfl, ⟨fun _ => HY.out, fun _ => rfl⟩, hb.out⟩
  obtain ⟨u, hu⟩ := getElem?_of_lt (show k < us.length by rw [← HN1.out]; exact hlt)
  obtain ⟨v, hv⟩ := getElem?_of_lt (show k < vs.length by rw [← HN2.out]; exact hlt)
  obtain ⟨x, hx⟩ := getElem?_of_lt (show k < xs.length by rw [← L1.out]; exact hlt)
  obtain ⟨y, hy⟩ := getElem?_of_lt (show k < ys.length by rw [← L2.out]; exact hlt)
  obtain ⟨b1, o1, hA1, _, hb1l, z0, z1⟩ := (H1.out.below hb.out).atNV hu
  obtain ⟨b2, o2, hA2, _, hb2l, y0, y1⟩ := (H2.out.below hb.out).atNV hv
  have E1 := (N1.out.below hb.out).each k u x hu hx
  have E2 := (N2.out.below hb.out).each k v y hv hy
  subst hA1 hA2
  have KB := Lib.hid (((Below.refl wa.heap.size wa).alloc (Nat.le_refl _) (.cells #[.int .i64 u.id, .slice u.A u.n u.c] 72)).alloc (by simp) (.cells #[.int .i64 v.id, .slice v.A v.n v.c] 72))
  have F1 := Lib.hid (And.intro E1.1 (E1.2.below KB.out))
  have F2 := Lib.hid (And.intro E2.1 (E2.2.below KB.out))
  have HX := Lib.hid hx
  have HY := Lib.hid hy
  clear hu hv hx hy E1 E2
  have q1 : wa.heap.size < wa.heap.size + 1 := by omega
  have q2 : b1 < wa.heap.size + 1 := by omega
  have q3 : b2 < wa.heap.size + 1 := by omega
  have q4 : wa.heap.size < wa.heap.size + 1 + 1 := by omega
  have q5 : wa.heap.size + 1 < wa.heap.size + 1 + 1 := by omega
  go_wp2_with fail
  refine (sameC_calls _ S u v x y F1.out F2.out).mono ?_
  rintro e w1 ⟨rfl, hb3⟩
  have K1 := Lib.hid (hb.out.trans ((KB.out.trans (hb3.mono (by simp; omega))).mono hwa))
  clear hb3 z0 z1 y0 y1
  by_cases hxy : x = y
  ·
   have hd : decide (x = y) = true := decide_eq_true hxy
   rw [hd]
   have HS := Lib.hid (show ∀ i, i < k + 1 → xs[i]? = ys[i]? from fun i hi => by
    rcases Nat.lt_or_ge i k with h3 | h3
    ·
     exact hse.out i h3
    ·
     obtain rfl : i = k := by omega
     rw [HX.out, HY.out, hxy])
   clear hd hxy
   go_wp2
   go_roundw
   case rel => exact ⟨k + 1, by omega, by first | (go_num; done) | (go_num; omega), HS, K1⟩
   case measure => simp [intOf]; omega
  ·
   have hd : decide (x = y) = false := decide_eq_false hxy
   rw [hd]
   have HN := Lib.hid (show ¬ xs = ys from fun e => hxy (by
    have h9 := HX.out
    rw [e, HY.out] at h9
    injection h9 with h9
    exact h9.symm))
   clear hd hxy
   go_wp2
   refine bodyPost_ret (v := .bool false) (by simp [results, Tryz.results48, go_sem]; try rfl) rfl ⟨false, rfl, ⟨fun e => (by cases e), fun h => absurd h HN.out⟩, K1.out⟩
theorem graph_eq {g h : GraphD} : g = h ↔ g.nn = h.nn ∧ g.ne = h.ne ∧ g.nodes = h.nodes ∧ g.edges = h.edges := by
 obtain ⟨a, b, c, d⟩ := g
 obtain ⟨a', b', c', d'⟩ := h
 simp only [GraphD.mk.injEq]
 constructor
 ·
  rintro ⟨h1, h2, h3, h4⟩; exact ⟨h3, h4, h1, h2⟩
 ·
  rintro ⟨h1, h2, h3, h4⟩; exact ⟨h3, h4, h1, h2⟩
set_option maxRecDepth 20000 in
set_option maxHeartbeats 4000000 in
theorem same_calls (w : World) (S : Nat → Prop) (g h : GraphD) (vn ve un ue : Value) (hg : Gr w S g vn ve) (hh : Gr w S h un ue) : Calls Tryz.prog 31 #[.agg #[vn, ve, .int .i64 g.nn, .int .i64 g.ne], .agg #[un, ue, .int .i64 h.nn, .int .i64 h.ne]] w (BPost w (g = h)) := by
 obtain ⟨⟨A1, c1, rfl⟩, ⟨A2, c2, rfl⟩⟩ := hg.slices
 obtain ⟨⟨A3, c3, rfl⟩, ⟨A4, c4, rfl⟩⟩ := hh.slices
 obtain ⟨W0, hW⟩ : ∃ W0, W0 = (w.alloc (.cells #[.slice A1 g.nodes.length c1, .slice A2 g.edges.length c2, .int .i64 g.nn, .int .i64 g.ne] 31)).alloc (.cells #[.slice A3 h.nodes.length c3, .slice A4 h.edges.length c4, .int .i64 h.nn, .int .i64 h.ne] 31) := ⟨_, rfl⟩
 have KW := Lib.hid (show Below w.heap.size w W0 by rw [hW]; exact ((Below.refl w.heap.size w).alloc (Nat.le_refl _) _).alloc (by simp) _)
 have BX := Lib.hid (show Box4 W0 w.heap.size (.slice A1 g.nodes.length c1) (.slice A2 g.edges.length c2) (.int .i64 g.nn) (.int .i64 g.ne) by
  rw [hW]
  exact (Box4.made w 31 _ _ _ _).keep (Below.heap_alloc _ _ _ (by simp)))
 have BY := Lib.hid (show Box4 W0 (w.heap.size + 1) (.slice A3 h.nodes.length c3) (.slice A4 h.edges.length c4) (.int .i64 h.nn) (.int .i64 h.ne) by
  rw [hW]
  have := Box4.made (w.alloc (.cells #[.slice A1 g.nodes.length c1, .slice A2 g.edges.length c2, .int .i64 g.nn, .int .i64 g.ne] 31)) 31 (.slice A3 h.nodes.length c3) (.slice A4 h.edges.length c4) (.int .i64 h.nn) (.int .i64 h.ne)
  rw [World.size_alloc] at this
  exact this)
 have s0 : W0.heap.size = w.heap.size + 1 + 1 := by rw [hW]; simp
 have HW := Lib.hid hW
 have HG := Lib.hid (hg.below KW.out)
 have HH := Lib.hid (hh.below KW.out)
 have HEQ := Lib.hid (graph_eq (g := g) (h := h))
 clear hg hh hW
 go_enter Tryz.func31, Tryz.ntmps31
 by_cases h1 : g.nn = h.nn
 case neg =>
  have HN := Lib.hid (show ¬ g = h from fun e => h1 (HEQ.out.1 e).1)
  have KE := Lib.hid (HW.out ▸ KW.out)
  replace h1 : (g.nn == h.nn) = false := beq_eq_false_iff_ne.mpr h1
  go_wp2
  refine bodyPost_ret (v := .bool false) (by simp [results, Tryz.results31, go_sem]; try rfl) rfl ⟨false, rfl, ⟨fun e => (by cases e), fun h => absurd h HN.out⟩, KE.out⟩
 by_cases h2 : g.ne = h.ne
 case neg =>
  have HN := Lib.hid (show ¬ g = h from fun e => h2 (HEQ.out.1 e).2.1)
  have KE := Lib.hid (HW.out ▸ KW.out)
  replace h1 : (g.nn == h.nn) = true := beq_iff_eq.mpr h1
  replace h2 : (g.ne == h.ne) = false := beq_eq_false_iff_ne.mpr h2
  go_wp2
  refine bodyPost_ret (v := .bool false) (by simp [results, Tryz.results31, go_sem]; try rfl) rfl ⟨false, rfl, ⟨fun e => (by cases e), fun h => absurd h HN.out⟩, KE.out⟩
 have HNN := Lib.hid (And.intro h1 h2)
 replace h1 : (g.nn == h.nn) = true := beq_iff_eq.mpr h1
 replace h2 : (g.ne == h.ne) = true := beq_iff_eq.mpr h2
 obtain ⟨⟨us, hr1, hv1⟩, he1⟩ := HG.out
 obtain ⟨⟨vs, hr2, hv2⟩, he2⟩ := HH.out
 have R1 := Lib.hid hr1
 have R2 := Lib.hid hr2
 have V1 := Lib.hid hv1
 have V2 := Lib.hid hv2
 clear hr1 hr2 hv1 hv2 he1 he2
 go_wp2_with fail
 rw [← HW.out]
 refine (equalN_calls W0 S _ _ us vs g.nodes h.nodes R1.out R2.out V1.out V2.out).mono ?_
 rintro e w1 ⟨b, rfl, hb, hb1⟩
 have s1 := hb1.size
 have K1 := Lib.hid (KW.out.trans (hb1.mono KW.out.size))
 have BX1 := Lib.hid (BX.out.keep (hb1.block _ (by omega)))
 have BY1 := Lib.hid (BY.out.keep (hb1.block _ (by omega)))
 have HE1 := Lib.hid (HG.out.2.below hb1)
 have HE2 := Lib.hid (HH.out.2.below hb1)
 have HB := Lib.hid hb
 clear hb hb1 BX BY HW
 have g1 : w.heap.size < w1.heap.size := by omega
 have g2 : w.heap.size + 1 < w1.heap.size := by omega
 cases b
 ·
  have HN := Lib.hid (show ¬ g = h from fun e => by have := HB.out.2 (HEQ.out.1 e).2.2.1; cases this)
  go_wp2
  refine bodyPost_ret (v := .bool false) (by simp [results, Tryz.results31, go_sem]; try rfl) rfl ⟨false, rfl, ⟨fun e => (by cases e), fun h => absurd h HN.out⟩, K1.out⟩
 obtain ⟨x0, x1, x2, x3, xf⟩ := BX1.out
 obtain ⟨y0, y1, y2, y3, yf⟩ := BY1.out
 go_wp2_with fail
 refine (eqEdges_calls w1 S _ _ g.edges h.edges HE1.out HE2.out).mono ?_
 rintro e w2 ⟨rfl, hb2⟩
 have K2 := Lib.hid (K1.out.trans (hb2.mono K1.out.size))
 have HF := Lib.hid (show decide (g.edges = h.edges) = true ↔ g = h by
  rw [decide_eq_true_iff]
  exact ⟨fun e => HEQ.out.2 ⟨HNN.out.1, HNN.out.2, HB.out.1 (by trivial), e⟩, fun e => (HEQ.out.1 e).2.2.2⟩)
 clear hb2 x0 x1 x2 x3 xf y0 y1 y2 y3 yf
 generalize decide (g.edges = h.edges) = b2 at *
 go_wp2
 refine bodyPost_ret (v := .bool b2) (by simp [results, Tryz.results31, go_sem]; try rfl) rfl ⟨b2, rfl, HF.out, K2.out⟩

end Go.Proofs.YtpehmmdbjakkpaaGreat
