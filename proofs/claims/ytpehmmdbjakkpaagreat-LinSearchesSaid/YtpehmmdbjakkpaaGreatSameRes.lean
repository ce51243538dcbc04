/- Two results are the same: apply.Same, tendrilref11.Same. -/
import Derived.Test.YtpehmmdbjakkpaaGreatRefDoA
import Derived.Test.YtpehmmdbjakkpaaGreatEqM
import Derived.Test.YtpehmmdbjakkpaaGreatCheckM
namespace Go.Proofs.YtpehmmdbjakkpaaGreat
open Go.RowKit Go.Shelf
set_option linter.unusedSimpArgs false
set_option linter.unusedVariables false
def ResD.nil : ResD := ⟨0, 0, [], [], []⟩
theorem res_eq {r s : ResD} : r = s ↔ r.st = s.st ∧ r.id = s.id ∧ r.ps = s.ps ∧ r.os = s.os ∧ r.is = s.is := by
 obtain ⟨a, b, c, d, e⟩ := r
 obtain ⟨a', b', c', d', e'⟩ := s
 simp only [ResD.mk.injEq]
theorem Res.mono {w : World} {S S' : Nat → Prop} {r : ResD} {v : Value} (h : Res w S r v) (hs : ∀ k, S k → k < w.heap.size → S' k) : Res w S' r v := by
 obtain ⟨vp, vo, vi, e, h1, h2, h3⟩ := h
 exact ⟨vp, vo, vi, e, h1.mono hs, h2.mono hs, h3.mono hs⟩
theorem Res.below {w w' : World} {S : Nat → Prop} {r : ResD} {v : Value} (h : Res w S r v) (hb : Below w.heap.size w w') : Res w' S r v := by
 obtain ⟨vp, vo, vi, e, h1, h2, h3⟩ := h
 exact ⟨vp, vo, vi, e, h1.below hb, h2.below hb, h3.below hb⟩
theorem Res.move {w w' : World} {S : Nat → Prop} {r : ResD} {v : Value} (h : Res w S r v) (hs : Same S w w') : Res w' S r v := by
 obtain ⟨vp, vo, vi, e, h1, h2, h3⟩ := h
 exact ⟨vp, vo, vi, e, h1.move hs, h2.move hs, h3.move hs⟩
theorem Res.slices {w : World} {S : Nat → Prop} {r : ResD} {v : Value} (h : Res w S r v) : ∃ a1 d1 a2 d2 a3 d3, v = .agg #[.int .i64 r.st, .int .i64 r.id, .slice a1 r.ps.length d1, .slice a2 r.os.length d2, .slice a3 r.is.length d3] ∧ Row tP w S (.slice a1 r.ps.length d1) r.ps ∧ Row tP w S (.slice a2 r.os.length d2) r.os ∧ Row tP w S (.slice a3 r.is.length d3) r.is := by
 obtain ⟨vp, vo, vi, rfl, h1, h2, h3⟩ := h
 obtain ⟨a1, d1, rfl⟩ := h1.slice
 obtain ⟨a2, d2, rfl⟩ := h2.slice
 obtain ⟨a3, d3, rfl⟩ := h3.slice
 exact ⟨a1, d1, a2, d2, a3, d3, rfl, h1, h2, h3⟩
set_option maxRecDepth 100000 in
set_option maxHeartbeats 8000000 in
theorem appSame_calls (w : World) (S1 S2 : Nat → Prop) (r s : ResD) (v u : Value) (h1 : Res w S1 r v) (h2 : Res w S2 s u) : Calls Tryz.prog 61 #[v, u] w (BPost w (r = s)) := by
 have HEQ := Lib.hid (res_eq (r := r) (s := s))
 obtain ⟨a1, d1, a2, d2, a3, d3, rfl, p1, p2, p3⟩ := (h1.mono (S' := fun _ => True) fun _ _ _ => trivial).slices
 obtain ⟨a4, d4, a5, d5, a6, d6, rfl, p4, p5, p6⟩ := (h2.mono (S' := fun _ => True) fun _ _ _ => trivial).slices
 obtain ⟨st, id, ps, os, is⟩ := r
 obtain ⟨st', id', qs, ot, it⟩ := s
 have HEQ1 := HEQ.out
 clear HEQ
 generalize ((⟨st, id, ps, os, is⟩ : ResD) = ⟨st', id', qs, ot, it⟩) = Q at HEQ1 ⊢
 have HEQ := Lib.hid HEQ1
 clear HEQ1
 obtain ⟨W0, hW⟩ : ∃ W0, W0 = (w.alloc (.cells #[.int .i64 st, .int .i64 id, .slice a1 ps.length d1, .slice a2 os.length d2, .slice a3 is.length d3] 50)).alloc (.cells #[.int .i64 st', .int .i64 id', .slice a4 qs.length d4, .slice a5 ot.length d5, .slice a6 it.length d6] 50) := ⟨_, rfl⟩
 have KW := Lib.hid (show Below w.heap.size w W0 by rw [hW]; exact ((Below.refl w.heap.size w).alloc (Nat.le_refl _) _).alloc (by simp) _)
 have BX := Lib.hid (show Box5 W0 w.heap.size _ _ _ _ _ from Box5.of (by rw [hW]; exact (Below.heap_alloc _ _ _ (by simp)).trans (heap_alloc_new w (.cells #[.int .i64 st, .int .i64 id, .slice a1 ps.length d1, .slice a2 os.length d2, .slice a3 is.length d3] 50))))
 have BY := Lib.hid (show Box5 W0 (w.heap.size + 1) _ _ _ _ _ from Box5.of (by
  rw [hW]
  have := heap_alloc_new (w.alloc (.cells #[.int .i64 st, .int .i64 id, .slice a1 ps.length d1, .slice a2 os.length d2, .slice a3 is.length d3] 50)) (.cells #[.int .i64 st', .int .i64 id', .slice a4 qs.length d4, .slice a5 ot.length d5, .slice a6 it.length d6] 50)
  rw [World.size_alloc] at this
  exact this))
 have s0 : W0.heap.size = w.heap.size + 1 + 1 := by rw [hW]; simp
 have HW := Lib.hid hW
 have P1 := Lib.hid (p1.below KW.out)
 have P2 := Lib.hid (p2.below KW.out)
 have P3 := Lib.hid (p3.below KW.out)
 have P4 := Lib.hid (p4.below KW.out)
 have P5 := Lib.hid (p5.below KW.out)
 have P6 := Lib.hid (p6.below KW.out)
 clear hW h1 h2 p1 p2 p3 p4 p5 p6
 go_enter Tryz.func61, Tryz.ntmps61
 by_cases e1 : st = st'
 case neg =>
  have HN := Lib.hid (show ¬ Q from fun e => e1 (HEQ.out.1 e).1)
  have KE := Lib.hid (HW.out ▸ KW.out)
  replace e1 : (st == st') = false := beq_eq_false_iff_ne.mpr e1
  go_wp2
  go_ret
  exact ⟨false, rfl, ⟨fun e => (by cases e), fun h => absurd h HN.out⟩, KE.out⟩
 by_cases e2 : id = id'
 case neg =>
  have HN := Lib.hid (show ¬ Q from fun e => e2 (HEQ.out.1 e).2.1)
  have KE := Lib.hid (HW.out ▸ KW.out)
  replace e1 : (st == st') = true := beq_iff_eq.mpr e1
  replace e2 : (id == id') = false := beq_eq_false_iff_ne.mpr e2
  go_wp2
  go_ret
  exact ⟨false, rfl, ⟨fun e => (by cases e), fun h => absurd h HN.out⟩, KE.out⟩
 have H12 := Lib.hid (And.intro e1 e2)
 replace e1 : (st == st') = true := beq_iff_eq.mpr e1
 replace e2 : (id == id') = true := beq_iff_eq.mpr e2
 go_wp2_with fail
 rw [← HW.out]
 refine (eqPairs_calls W0 (fun _ => True) _ _ ps qs P1.out P4.out).mono ?_
 by_cases f1 : ps = qs
 case neg =>
  rw [decide_eq_false f1]
  rintro e w1 ⟨rfl, hb⟩
  have HN := Lib.hid (show ¬ Q from fun e => f1 (HEQ.out.1 e).2.2.1)
  have KE := Lib.hid (KW.out.trans (hb.mono KW.out.size))
  clear hb
  go_wp2
  go_ret
  exact ⟨false, rfl, ⟨fun e => (by cases e), fun h => absurd h HN.out⟩, KE.out⟩
 rw [decide_eq_true f1]
 rintro e w1 ⟨rfl, hb⟩
 have s1 := hb.size
 have K1 := Lib.hid (KW.out.trans (hb.mono KW.out.size))
 have X1 := Lib.hid (BX.out.keep (hb.block _ (by omega)))
 have Y1 := Lib.hid (BY.out.keep (hb.block _ (by omega)))
 replace P2 := Lib.hid (P2.out.below hb)
 replace P3 := Lib.hid (P3.out.below hb)
 replace P5 := Lib.hid (P5.out.below hb)
 replace P6 := Lib.hid (P6.out.below hb)
 clear hb HW
 obtain ⟨x0, x1, x2, x3, x4, xf⟩ := X1.out
 obtain ⟨y0, y1, y2, y3, y4, yf⟩ := Y1.out
 have g1 : w.heap.size + 1 < w1.heap.size := by omega
 have k1 : w.heap.size < w1.heap.size := by omega
 go_wp2_with fail
 refine (eqEnds_calls w1 (fun _ => True) _ _ os ot P2.out P5.out).mono ?_
 by_cases f2 : os = ot
 case neg =>
  rw [decide_eq_false f2]
  rintro e w1 ⟨rfl, hb⟩
  have HN := Lib.hid (show ¬ Q from fun e => f2 (HEQ.out.1 e).2.2.2.1)
  have KE := Lib.hid (K1.out.trans (hb.mono K1.out.size))
  clear hb
  go_wp2
  go_ret
  exact ⟨false, rfl, ⟨fun e => (by cases e), fun h => absurd h HN.out⟩, KE.out⟩
 rw [decide_eq_true f2]
 rintro e w2 ⟨rfl, hb⟩
 have s2 := hb.size
 have K2 := Lib.hid (K1.out.trans (hb.mono K1.out.size))
 have X2 := Lib.hid (X1.out.keep (hb.block _ (by omega)))
 have Y2 := Lib.hid (Y1.out.keep (hb.block _ (by omega)))
 replace P2 := Lib.hid (P2.out.below hb)
 replace P3 := Lib.hid (P3.out.below hb)
 replace P5 := Lib.hid (P5.out.below hb)
 replace P6 := Lib.hid (P6.out.below hb)
 clear hb x0 x1 x2 x3 x4 xf y0 y1 y2 y3 y4 yf
 obtain ⟨x0, x1, x2, x3, x4, xf⟩ := X2.out
 obtain ⟨y0, y1, y2, y3, y4, yf⟩ := Y2.out
 have g2 : w.heap.size + 1 < w2.heap.size := by omega
 have k2 : w.heap.size < w2.heap.size := by omega
 go_wp2_with fail
 refine (eqEnds_calls w2 (fun _ => True) _ _ is it P3.out P6.out).mono ?_
 by_cases f3 : is = it
 case neg =>
  rw [decide_eq_false f3]
  rintro e w1 ⟨rfl, hb⟩
  have HN := Lib.hid (show ¬ Q from fun e => f3 (HEQ.out.1 e).2.2.2.2)
  have KE := Lib.hid (K2.out.trans (hb.mono K2.out.size))
  clear hb
  go_wp2
  go_ret
  exact ⟨false, rfl, ⟨fun e => (by cases e), fun h => absurd h HN.out⟩, KE.out⟩
 rw [decide_eq_true f3]
 rintro e w3 ⟨rfl, hb⟩
 have s3 := hb.size
 have K3 := Lib.hid (K2.out.trans (hb.mono K2.out.size))
 have HN := Lib.hid (show Q from HEQ.out.2 ⟨H12.out.1, H12.out.2, f1, f2, f3⟩)
 clear hb x0 x1 x2 x3 x4 xf y0 y1 y2 y3 y4 yf
 go_wp2
 go_ret
 exact ⟨true, rfl, ⟨fun _ => HN.out, fun _ => rfl⟩, K3.out⟩
set_option maxRecDepth 100000 in
set_option maxHeartbeats 8000000 in
theorem refSameR_calls (w : World) (S1 S2 : Nat → Prop) (r s : ResD) (v u : Value) (h1 : Res w S1 r v) (h2 : Res w S2 s u) : Calls Tryz.prog 75 #[v, u] w (BPost w (r = s)) := by
 have HEQ := Lib.hid (res_eq (r := r) (s := s))
 obtain ⟨a1, d1, a2, d2, a3, d3, rfl, p1, p2, p3⟩ := (h1.mono (S' := fun _ => True) fun _ _ _ => trivial).slices
 obtain ⟨a4, d4, a5, d5, a6, d6, rfl, p4, p5, p6⟩ := (h2.mono (S' := fun _ => True) fun _ _ _ => trivial).slices
 obtain ⟨st, id, ps, os, is⟩ := r
 obtain ⟨st', id', qs, ot, it⟩ := s
 have HEQ1 := HEQ.out
 clear HEQ
 generalize ((⟨st, id, ps, os, is⟩ : ResD) = ⟨st', id', qs, ot, it⟩) = Q at HEQ1 ⊢
 have HEQ := Lib.hid HEQ1
 clear HEQ1
 obtain ⟨W0, hW⟩ : ∃ W0, W0 = (w.alloc (.cells #[.int .i64 st, .int .i64 id, .slice a1 ps.length d1, .slice a2 os.length d2, .slice a3 is.length d3] 50)).alloc (.cells #[.int .i64 st', .int .i64 id', .slice a4 qs.length d4, .slice a5 ot.length d5, .slice a6 it.length d6] 50) := ⟨_, rfl⟩
 have KW := Lib.hid (show Below w.heap.size w W0 by rw [hW]; exact ((Below.refl w.heap.size w).alloc (Nat.le_refl _) _).alloc (by simp) _)
 have BX := Lib.hid (show Box5 W0 w.heap.size _ _ _ _ _ from Box5.of (by rw [hW]; exact (Below.heap_alloc _ _ _ (by simp)).trans (heap_alloc_new w (.cells #[.int .i64 st, .int .i64 id, .slice a1 ps.length d1, .slice a2 os.length d2, .slice a3 is.length d3] 50))))
 have BY := Lib.hid (show Box5 W0 (w.heap.size + 1) _ _ _ _ _ from Box5.of (by
  rw [hW]
  have := heap_alloc_new (w.alloc (.cells #[.int .i64 st, .int .i64 id, .slice a1 ps.length d1, .slice a2 os.length d2, .slice a3 is.length d3] 50)) (.cells #[.int .i64 st', .int .i64 id', .slice a4 qs.length d4, .slice a5 ot.length d5, .slice a6 it.length d6] 50)
  rw [World.size_alloc] at this
  exact this))
 have s0 : W0.heap.size = w.heap.size + 1 + 1 := by rw [hW]; simp
 have HW := Lib.hid hW
 have P1 := Lib.hid (p1.below KW.out)
 have P2 := Lib.hid (p2.below KW.out)
 have P3 := Lib.hid (p3.below KW.out)
 have P4 := Lib.hid (p4.below KW.out)
 have P5 := Lib.hid (p5.below KW.out)
 have P6 := Lib.hid (p6.below KW.out)
 clear hW h1 h2 p1 p2 p3 p4 p5 p6
 go_enter Tryz.func75, Tryz.ntmps75
 by_cases e1 : st = st'
 case neg =>
  have HN := Lib.hid (show ¬ Q from fun e => e1 (HEQ.out.1 e).1)
  have KE := Lib.hid (HW.out ▸ KW.out)
  replace e1 : (st == st') = false := beq_eq_false_iff_ne.mpr e1
  go_wp2
  go_ret
  exact ⟨false, rfl, ⟨fun e => (by cases e), fun h => absurd h HN.out⟩, KE.out⟩
 by_cases e2 : id = id'
 case neg =>
  have HN := Lib.hid (show ¬ Q from fun e => e2 (HEQ.out.1 e).2.1)
  have KE := Lib.hid (HW.out ▸ KW.out)
  replace e1 : (st == st') = true := beq_iff_eq.mpr e1
  replace e2 : (id == id') = false := beq_eq_false_iff_ne.mpr e2
  go_wp2
  go_ret
  exact ⟨false, rfl, ⟨fun e => (by cases e), fun h => absurd h HN.out⟩, KE.out⟩
 have H12 := Lib.hid (And.intro e1 e2)
 replace e1 : (st == st') = true := beq_iff_eq.mpr e1
 replace e2 : (id == id') = true := beq_iff_eq.mpr e2
 go_wp2_with fail
 rw [← HW.out]
 refine (samePairs_calls W0 (fun _ => True) _ _ ps qs P1.out P4.out).mono ?_
 by_cases f1 : ps = qs
 case neg =>
  rw [decide_eq_false f1]
  rintro e w1 ⟨rfl, hb⟩
  have HN := Lib.hid (show ¬ Q from fun e => f1 (HEQ.out.1 e).2.2.1)
  have KE := Lib.hid (KW.out.trans (hb.mono KW.out.size))
  clear hb
  go_wp2
  go_ret
  exact ⟨false, rfl, ⟨fun e => (by cases e), fun h => absurd h HN.out⟩, KE.out⟩
 rw [decide_eq_true f1]
 rintro e w1 ⟨rfl, hb⟩
 have s1 := hb.size
 have K1 := Lib.hid (KW.out.trans (hb.mono KW.out.size))
 have X1 := Lib.hid (BX.out.keep (hb.block _ (by omega)))
 have Y1 := Lib.hid (BY.out.keep (hb.block _ (by omega)))
 replace P2 := Lib.hid (P2.out.below hb)
 replace P3 := Lib.hid (P3.out.below hb)
 replace P5 := Lib.hid (P5.out.below hb)
 replace P6 := Lib.hid (P6.out.below hb)
 clear hb HW
 obtain ⟨x0, x1, x2, x3, x4, xf⟩ := X1.out
 obtain ⟨y0, y1, y2, y3, y4, yf⟩ := Y1.out
 have g1 : w.heap.size + 1 < w1.heap.size := by omega
 have k1 : w.heap.size < w1.heap.size := by omega
 go_wp2_with fail
 refine (sameEnds_calls w1 (fun _ => True) _ _ os ot P2.out P5.out).mono ?_
 by_cases f2 : os = ot
 case neg =>
  rw [decide_eq_false f2]
  rintro e w1 ⟨rfl, hb⟩
  have HN := Lib.hid (show ¬ Q from fun e => f2 (HEQ.out.1 e).2.2.2.1)
  have KE := Lib.hid (K1.out.trans (hb.mono K1.out.size))
  clear hb
  go_wp2
  go_ret
  exact ⟨false, rfl, ⟨fun e => (by cases e), fun h => absurd h HN.out⟩, KE.out⟩
 rw [decide_eq_true f2]
 rintro e w2 ⟨rfl, hb⟩
 have s2 := hb.size
 have K2 := Lib.hid (K1.out.trans (hb.mono K1.out.size))
 have X2 := Lib.hid (X1.out.keep (hb.block _ (by omega)))
 have Y2 := Lib.hid (Y1.out.keep (hb.block _ (by omega)))
 replace P2 := Lib.hid (P2.out.below hb)
 replace P3 := Lib.hid (P3.out.below hb)
 replace P5 := Lib.hid (P5.out.below hb)
 replace P6 := Lib.hid (P6.out.below hb)
 clear hb x0 x1 x2 x3 x4 xf y0 y1 y2 y3 y4 yf
 obtain ⟨x0, x1, x2, x3, x4, xf⟩ := X2.out
 obtain ⟨y0, y1, y2, y3, y4, yf⟩ := Y2.out
 have g2 : w.heap.size + 1 < w2.heap.size := by omega
 have k2 : w.heap.size < w2.heap.size := by omega
 go_wp2_with fail
 refine (sameEnds_calls w2 (fun _ => True) _ _ is it P3.out P6.out).mono ?_
 by_cases f3 : is = it
 case neg =>
  rw [decide_eq_false f3]
  rintro e w1 ⟨rfl, hb⟩
  have HN := Lib.hid (show ¬ Q from fun e => f3 (HEQ.out.1 e).2.2.2.2)
  have KE := Lib.hid (K2.out.trans (hb.mono K2.out.size))
  clear hb
  go_wp2
  go_ret
  exact ⟨false, rfl, ⟨fun e => (by cases e), fun h => absurd h HN.out⟩, KE.out⟩
 rw [decide_eq_true f3]
 rintro e w3 ⟨rfl, hb⟩
 have s3 := hb.size
 have K3 := Lib.hid (K2.out.trans (hb.mono K2.out.size))
 have HN := Lib.hid (show Q from HEQ.out.2 ⟨H12.out.1, H12.out.2, f1, f2, f3⟩)
 clear hb x0 x1 x2 x3 x4 xf y0 y1 y2 y3 y4 yf
 go_wp2
 go_ret
 exact ⟨true, rfl, ⟨fun _ => HN.out, fun _ => rfl⟩, K3.out⟩

end Go.Proofs.YtpehmmdbjakkpaaGreat
