/- apply.Same, the reference's Same of results; Same of calls; Pending; the reference's Before. -/
import Derived.Test.YtgpmkcipogljbaaSameR
import Derived.Test.YtgpmkcipogljbaaFew
namespace Go.Proofs.Ytgpmkcipogljbaa
open Go.RowKit
set_option linter.unusedSimpArgs false
set_option linter.unusedVariables false
set_option maxHeartbeats 4000000 in
theorem applySame_calls (w : World) (S : Nat → Prop) (r s : ResD) (p o i p' o' i' : Value) (h : Sl w S r p o i) (h' : Sl w S s p' o' i') : Calls Try.prog 18 #[.agg #[.int .i64 r.err, .int .i64 r.id, p, o, i], .agg #[.int .i64 s.err, .int .i64 s.id, p', o', i']] w fun e w' => e = .returned (.bool (decide (r = s))) ∧ Below w.heap.size w w' := by
  have hw : Below w.heap.size w ((w.alloc (.cells #[.int .i64 r.err, .int .i64 r.id, p, o, i] 34)).alloc (.cells #[.int .i64 s.err, .int .i64 s.id, p', o', i'] 34)) := ((Below.refl w.heap.size w).alloc (Nat.le_refl _) _).alloc (by simp) _
  have H := Lib.hid (h.below hw)
  have H' := Lib.hid (h'.below hw)
  have HW := Lib.hid hw
  obtain ⟨A1, c1, rfl⟩ := h.1.slice
  obtain ⟨A2, c2, rfl⟩ := h.2.1.slice
  obtain ⟨A3, c3, rfl⟩ := h.2.2.slice
  obtain ⟨B1, d1, rfl⟩ := h'.1.slice
  obtain ⟨B2, d2, rfl⟩ := h'.2.1.slice
  obtain ⟨B3, d3, rfl⟩ := h'.2.2.slice
  clear h h' hw
  by_cases e1 : r.err = s.err
  case neg =>
    have hd := Lib.hid (res_ne (r := r) (s := s) (by rintro ⟨x, _⟩; exact e1 x))
    replace e1 : (r.err == s.err) = false := beq_eq_false_iff_ne.mpr e1
    go_enter Try.func18, Try.ntmps18
    go_wp2
    go_ret
    exact ⟨by rw [hd.out]; rfl, HW.out⟩
  by_cases e2 : r.id = s.id
  case neg =>
    have hd := Lib.hid (res_ne (r := r) (s := s) (by rintro ⟨_, x, _⟩; exact e2 x))
    replace e2 : (r.id == s.id) = false := beq_eq_false_iff_ne.mpr e2
    replace e1 : (r.err == s.err) = true := beq_iff_eq.mpr e1
    go_enter Try.func18, Try.ntmps18
    go_wp2
    go_ret
    exact ⟨by rw [hd.out]; rfl, HW.out⟩
  have E1 := Lib.hid e1
  have E2 := Lib.hid e2
  replace e2 : (r.id == s.id) = true := beq_iff_eq.mpr e2
  replace e1 : (r.err == s.err) = true := beq_iff_eq.mpr e1
  go_enter Try.func18, Try.ntmps18
  go_wp2_with fail
  refine (eqPairs_calls _ S _ _ _ _ H.out.1 H'.out.1).mono ?_
  rintro e w1 ⟨rfl, hb1⟩
  obtain ⟨hc1, hf1⟩ := bcell hb1
  have hsz1 := hb1.size
  have HA := Lib.hid (H.out.below hb1)
  have HA' := Lib.hid (H'.out.below hb1)
  have K1 := Lib.hid (HW.out.trans (hb1.mono (by simp; omega)))
  clear hb1
  simp only [World.size_alloc] at hsz1 hc1 hf1
  have g1 : w.heap.size < w1.heap.size := by omega
  have g2 : w.heap.size + 1 < w1.heap.size := by omega
  by_cases e3 : r.ps = s.ps
  case neg =>
    have hd := Lib.hid (res_ne (r := r) (s := s) (by rintro ⟨_, _, x, _⟩; exact e3 x))
    rw [decide_eq_false e3]
    clear e3
    go_wp2
    go_ret
    exact ⟨by rw [hd.out]; rfl, K1.out⟩
  have E3 := Lib.hid e3
  rw [decide_eq_true e3]
  clear e3
  go_wp2_with fail
  refine (eqEnds_calls _ S _ _ _ _ HA.out.2.1 HA'.out.2.1).mono ?_
  rintro e w2 ⟨rfl, hb2⟩
  obtain ⟨hc2, hf2⟩ := bcell hb2
  have hsz2 := hb2.size
  have HB := Lib.hid (HA.out.below hb2)
  have HB' := Lib.hid (HA'.out.below hb2)
  have K2 := Lib.hid (K1.out.trans (hb2.mono (by omega)))
  clear hb2
  by_cases e4 : r.os = s.os
  case neg =>
    have hd := Lib.hid (res_ne (r := r) (s := s) (by rintro ⟨_, _, _, x, _⟩; exact e4 x))
    rw [decide_eq_false e4]
    clear e4
    go_wp2
    go_ret
    exact ⟨by rw [hd.out]; rfl, K2.out⟩
  have E4 := Lib.hid e4
  rw [decide_eq_true e4]
  clear e4
  go_wp2_with fail
  refine (eqEnds_calls _ S _ _ _ _ HB.out.2.2 HB'.out.2.2).mono ?_
  rintro e w3 ⟨rfl, hb3⟩
  have K3 := Lib.hid (K2.out.trans (hb3.mono (by omega)))
  clear hb3
  by_cases e5 : r.is = s.is
  case neg =>
    have hd := Lib.hid (res_ne (r := r) (s := s) (by rintro ⟨_, _, _, _, x⟩; exact e5 x))
    rw [decide_eq_false e5]
    clear e5
    go_wp2
    go_ret
    exact ⟨by rw [hd.out]; rfl, K3.out⟩
  have hd := Lib.hid (res_eq (r := r) (s := s) ⟨E1.out, E2.out, E3.out, E4.out, e5⟩)
  rw [decide_eq_true e5]
  clear e5
  go_wp2
  go_ret
  exact ⟨by rw [hd.out]; rfl, K3.out⟩
set_option maxHeartbeats 4000000 in
theorem refSame_calls (w : World) (S : Nat → Prop) (r s : ResD) (p o i p' o' i' : Value) (h : Sl w S r p o i) (h' : Sl w S s p' o' i') : Calls Try.prog 27 #[.agg #[.int .i64 r.err, .int .i64 r.id, p, o, i], .agg #[.int .i64 s.err, .int .i64 s.id, p', o', i']] w fun e w' => e = .returned (.bool (decide (r = s))) ∧ Below w.heap.size w w' := by
  have hw : Below w.heap.size w ((w.alloc (.cells #[.int .i64 r.err, .int .i64 r.id, p, o, i] 34)).alloc (.cells #[.int .i64 s.err, .int .i64 s.id, p', o', i'] 34)) := ((Below.refl w.heap.size w).alloc (Nat.le_refl _) _).alloc (by simp) _
  have H := Lib.hid (h.below hw)
  have H' := Lib.hid (h'.below hw)
  have HW := Lib.hid hw
  obtain ⟨A1, c1, rfl⟩ := h.1.slice
  obtain ⟨A2, c2, rfl⟩ := h.2.1.slice
  obtain ⟨A3, c3, rfl⟩ := h.2.2.slice
  obtain ⟨B1, d1, rfl⟩ := h'.1.slice
  obtain ⟨B2, d2, rfl⟩ := h'.2.1.slice
  obtain ⟨B3, d3, rfl⟩ := h'.2.2.slice
  clear h h' hw
  by_cases e1 : r.err = s.err
  case neg =>
    have hd := Lib.hid (res_ne (r := r) (s := s) (by rintro ⟨x, _⟩; exact e1 x))
    replace e1 : (r.err == s.err) = false := beq_eq_false_iff_ne.mpr e1
    go_enter Try.func27, Try.ntmps27
    go_wp2
    go_ret
    exact ⟨by rw [hd.out]; rfl, HW.out⟩
  by_cases e2 : r.id = s.id
  case neg =>
    have hd := Lib.hid (res_ne (r := r) (s := s) (by rintro ⟨_, x, _⟩; exact e2 x))
    replace e2 : (r.id == s.id) = false := beq_eq_false_iff_ne.mpr e2
    replace e1 : (r.err == s.err) = true := beq_iff_eq.mpr e1
    go_enter Try.func27, Try.ntmps27
    go_wp2
    go_ret
    exact ⟨by rw [hd.out]; rfl, HW.out⟩
  have E1 := Lib.hid e1
  have E2 := Lib.hid e2
  replace e2 : (r.id == s.id) = true := beq_iff_eq.mpr e2
  replace e1 : (r.err == s.err) = true := beq_iff_eq.mpr e1
  go_enter Try.func27, Try.ntmps27
  go_wp2_with fail
  refine (samePairs_calls _ S _ _ _ _ H.out.1 H'.out.1).mono ?_
  rintro e w1 ⟨rfl, hb1⟩
  obtain ⟨hc1, hf1⟩ := bcell hb1
  have hsz1 := hb1.size
  have HA := Lib.hid (H.out.below hb1)
  have HA' := Lib.hid (H'.out.below hb1)
  have K1 := Lib.hid (HW.out.trans (hb1.mono (by simp; omega)))
  clear hb1
  simp only [World.size_alloc] at hsz1 hc1 hf1
  have g1 : w.heap.size < w1.heap.size := by omega
  have g2 : w.heap.size + 1 < w1.heap.size := by omega
  by_cases e3 : r.ps = s.ps
  case neg =>
    have hd := Lib.hid (res_ne (r := r) (s := s) (by rintro ⟨_, _, x, _⟩; exact e3 x))
    rw [decide_eq_false e3]
    clear e3
    go_wp2
    go_ret
    exact ⟨by rw [hd.out]; rfl, K1.out⟩
  have E3 := Lib.hid e3
  rw [decide_eq_true e3]
  clear e3
  go_wp2_with fail
  refine (sameEnds_calls _ S _ _ _ _ HA.out.2.1 HA'.out.2.1).mono ?_
  rintro e w2 ⟨rfl, hb2⟩
  obtain ⟨hc2, hf2⟩ := bcell hb2
  have hsz2 := hb2.size
  have HB := Lib.hid (HA.out.below hb2)
  have HB' := Lib.hid (HA'.out.below hb2)
  have K2 := Lib.hid (K1.out.trans (hb2.mono (by omega)))
  clear hb2
  by_cases e4 : r.os = s.os
  case neg =>
    have hd := Lib.hid (res_ne (r := r) (s := s) (by rintro ⟨_, _, _, x, _⟩; exact e4 x))
    rw [decide_eq_false e4]
    clear e4
    go_wp2
    go_ret
    exact ⟨by rw [hd.out]; rfl, K2.out⟩
  have E4 := Lib.hid e4
  rw [decide_eq_true e4]
  clear e4
  go_wp2_with fail
  refine (sameEnds_calls _ S _ _ _ _ HB.out.2.2 HB'.out.2.2).mono ?_
  rintro e w3 ⟨rfl, hb3⟩
  have K3 := Lib.hid (K2.out.trans (hb3.mono (by omega)))
  clear hb3
  by_cases e5 : r.is = s.is
  case neg =>
    have hd := Lib.hid (res_ne (r := r) (s := s) (by rintro ⟨_, _, _, _, x⟩; exact e5 x))
    rw [decide_eq_false e5]
    clear e5
    go_wp2
    go_ret
    exact ⟨by rw [hd.out]; rfl, K3.out⟩
  have hd := Lib.hid (res_eq (r := r) (s := s) ⟨E1.out, E2.out, E3.out, E4.out, e5⟩)
  rw [decide_eq_true e5]
  clear e5
  go_wp2
  go_ret
  exact ⟨by rw [hd.out]; rfl, K3.out⟩
set_option maxRecDepth 100000 in
set_option maxHeartbeats 2000000 in
theorem refBefore_calls (w : World) (a b : CallD) (p1 p2 p3 q1 q2 q3 : Value) : Calls Try.prog 20 #[.agg #[.int .i64 a.th, .int .i64 a.op.kind, .int .i64 a.op.a, .int .i64 a.op.b, .int .i64 a.op.k, .int .i64 a.op.v, .int .i64 a.frm, .int .i64 a.to, .int .i64 a.res.err, .int .i64 a.res.id, p1, p2, p3], .agg #[.int .i64 b.th, .int .i64 b.op.kind, .int .i64 b.op.a, .int .i64 b.op.b, .int .i64 b.op.k, .int .i64 b.op.v, .int .i64 b.frm, .int .i64 b.to, .int .i64 b.res.err, .int .i64 b.res.id, q1, q2, q3]] w fun e w' => e = .returned (.bool (beforeB a b)) ∧ Below w.heap.size w w' := by
  have hw : ∀ o1 o2, Below w.heap.size w ((w.alloc o1).alloc o2) := fun o1 o2 => ((Below.refl w.heap.size w).alloc (Nat.le_refl _) _).alloc (by simp) _
  have HW := Lib.hid hw
  clear hw
  by_cases h : 0 ≤ a.to
  · have e : beforeB a b = decide (a.to < b.frm) := by simp [beforeB, h]
    rw [e]
    clear e
    go_enter Try.func20, Try.ntmps20
    go_wp2
    all_goals (go_ret; exact ⟨by first | rfl | simp_all, HW.out _ _⟩)
  · have e : beforeB a b = false := by simp [beforeB, h]
    rw [e]
    clear e
    go_enter Try.func20, Try.ntmps20
    go_wp2
    all_goals (go_ret; exact ⟨by first | rfl | simp_all, HW.out _ _⟩)
theorem call_ne {x y : CallD} (h : ¬ (x.th = y.th ∧ x.op = y.op ∧ x.frm = y.frm ∧ x.to = y.to ∧ x.res = y.res)) : decide (x = y) = false := decide_eq_false fun e => h (by rw [e]; exact ⟨rfl, rfl, rfl, rfl, rfl⟩)
theorem call_eq {x y : CallD} (h : x.th = y.th ∧ x.op = y.op ∧ x.frm = y.frm ∧ x.to = y.to) : decide (x = y) = decide (x.res = y.res) := by
  obtain ⟨h1, h2, h3, h4⟩ := h
  cases x; cases y; simp_all
set_option maxRecDepth 100000 in
set_option maxHeartbeats 4000000 in
theorem sameC_calls (w : World) (S : Nat → Prop) (x y : CallD) (p1 p2 p3 q1 q2 q3 : Value) (h : Sl w S x.res p1 p2 p3) (h' : Sl w S y.res q1 q2 q3) : Calls Try.prog 17 #[.agg #[.int .i64 x.th, .int .i64 x.op.kind, .int .i64 x.op.a, .int .i64 x.op.b, .int .i64 x.op.k, .int .i64 x.op.v, .int .i64 x.frm, .int .i64 x.to, .int .i64 x.res.err, .int .i64 x.res.id, p1, p2, p3], .agg #[.int .i64 y.th, .int .i64 y.op.kind, .int .i64 y.op.a, .int .i64 y.op.b, .int .i64 y.op.k, .int .i64 y.op.v, .int .i64 y.frm, .int .i64 y.to, .int .i64 y.res.err, .int .i64 y.res.id, q1, q2, q3]] w fun e w' => e = .returned (.bool (decide (x = y))) ∧ Below w.heap.size w w' := by
  have hw : Below w.heap.size w ((w.alloc (.cells #[.int .i64 x.th, .int .i64 x.op.kind, .int .i64 x.op.a, .int .i64 x.op.b, .int .i64 x.op.k, .int .i64 x.op.v, .int .i64 x.frm, .int .i64 x.to, .int .i64 x.res.err, .int .i64 x.res.id, p1, p2, p3] 36)).alloc (.cells #[.int .i64 y.th, .int .i64 y.op.kind, .int .i64 y.op.a, .int .i64 y.op.b, .int .i64 y.op.k, .int .i64 y.op.v, .int .i64 y.frm, .int .i64 y.to, .int .i64 y.res.err, .int .i64 y.res.id, q1, q2, q3] 36)) := ((Below.refl w.heap.size w).alloc (Nat.le_refl _) _).alloc (by simp) _
  have H := Lib.hid (h.below hw)
  have H' := Lib.hid (h'.below hw)
  have HW := Lib.hid hw
  obtain ⟨A1, c1, rfl⟩ := h.1.slice
  obtain ⟨A2, c2, rfl⟩ := h.2.1.slice
  obtain ⟨A3, c3, rfl⟩ := h.2.2.slice
  obtain ⟨B1, d1, rfl⟩ := h'.1.slice
  obtain ⟨B2, d2, rfl⟩ := h'.2.1.slice
  obtain ⟨B3, d3, rfl⟩ := h'.2.2.slice
  clear h h' hw
  have heq := fun W : World => eqlOp W x.op y.op
  by_cases e1 : x.th = y.th
  case neg =>
    have hd := Lib.hid (call_ne (x := x) (y := y) (by rintro ⟨h, _⟩; exact e1 h))
    replace e1 : (x.th == y.th) = false := beq_eq_false_iff_ne.mpr e1
    go_enter Try.func17, Try.ntmps17
    go_wp2
    go_ret
    exact ⟨by rw [hd.out]; rfl, HW.out⟩
  have E1 := Lib.hid e1
  replace e1 : (x.th == y.th) = true := beq_iff_eq.mpr e1
  by_cases e2 : x.op = y.op
  case neg =>
    have hd := Lib.hid (call_ne (x := x) (y := y) (by rintro ⟨_, h, _⟩; exact e2 h))
    replace e2 : decide (x.op = y.op) = false := decide_eq_false e2
    rw [e2] at heq
    go_enter Try.func17, Try.ntmps17
    go_wp2
    go_ret
    exact ⟨by rw [hd.out]; rfl, HW.out⟩
  have E2 := Lib.hid e2
  replace e2 : decide (x.op = y.op) = true := decide_eq_true e2
  rw [e2] at heq
  clear e2
  by_cases e3 : x.frm = y.frm
  case neg =>
    have hd := Lib.hid (call_ne (x := x) (y := y) (by rintro ⟨_, _, h, _⟩; exact e3 h))
    replace e3 : (x.frm == y.frm) = false := beq_eq_false_iff_ne.mpr e3
    go_enter Try.func17, Try.ntmps17
    go_wp2
    go_ret
    exact ⟨by rw [hd.out]; rfl, HW.out⟩
  have E3 := Lib.hid e3
  replace e3 : (x.frm == y.frm) = true := beq_iff_eq.mpr e3
  by_cases e4 : x.to = y.to
  case neg =>
    have hd := Lib.hid (call_ne (x := x) (y := y) (by rintro ⟨_, _, _, h, _⟩; exact e4 h))
    replace e4 : (x.to == y.to) = false := beq_eq_false_iff_ne.mpr e4
    go_enter Try.func17, Try.ntmps17
    go_wp2
    go_ret
    exact ⟨by rw [hd.out]; rfl, HW.out⟩
  have hd := Lib.hid (call_eq (x := x) (y := y) ⟨E1.out, E2.out, E3.out, e4⟩)
  replace e4 : (x.to == y.to) = true := beq_iff_eq.mpr e4
  go_enter Try.func17, Try.ntmps17
  go_wp2_with fail
  refine (histSame_calls _ S _ _ _ _ _ _ _ _ H.out H'.out).mono ?_
  rintro e w1 ⟨rfl, hb1⟩
  have K1 := Lib.hid (HW.out.trans (hb1.mono (by simp; omega)))
  clear hb1
  go_wp2
  go_ret
  exact ⟨by rw [hd.out]; rfl, K1.out⟩
set_option maxRecDepth 100000 in
set_option maxHeartbeats 4000000 in
theorem refSameC_calls (w : World) (S : Nat → Prop) (x y : CallD) (p1 p2 p3 q1 q2 q3 : Value) (h : Sl w S x.res p1 p2 p3) (h' : Sl w S y.res q1 q2 q3) : Calls Try.prog 21 #[.agg #[.int .i64 x.th, .int .i64 x.op.kind, .int .i64 x.op.a, .int .i64 x.op.b, .int .i64 x.op.k, .int .i64 x.op.v, .int .i64 x.frm, .int .i64 x.to, .int .i64 x.res.err, .int .i64 x.res.id, p1, p2, p3], .agg #[.int .i64 y.th, .int .i64 y.op.kind, .int .i64 y.op.a, .int .i64 y.op.b, .int .i64 y.op.k, .int .i64 y.op.v, .int .i64 y.frm, .int .i64 y.to, .int .i64 y.res.err, .int .i64 y.res.id, q1, q2, q3]] w fun e w' => e = .returned (.bool (decide (x = y))) ∧ Below w.heap.size w w' := by
  have hw : Below w.heap.size w ((w.alloc (.cells #[.int .i64 x.th, .int .i64 x.op.kind, .int .i64 x.op.a, .int .i64 x.op.b, .int .i64 x.op.k, .int .i64 x.op.v, .int .i64 x.frm, .int .i64 x.to, .int .i64 x.res.err, .int .i64 x.res.id, p1, p2, p3] 36)).alloc (.cells #[.int .i64 y.th, .int .i64 y.op.kind, .int .i64 y.op.a, .int .i64 y.op.b, .int .i64 y.op.k, .int .i64 y.op.v, .int .i64 y.frm, .int .i64 y.to, .int .i64 y.res.err, .int .i64 y.res.id, q1, q2, q3] 36)) := ((Below.refl w.heap.size w).alloc (Nat.le_refl _) _).alloc (by simp) _
  have H := Lib.hid (h.below hw)
  have H' := Lib.hid (h'.below hw)
  have HW := Lib.hid hw
  obtain ⟨A1, c1, rfl⟩ := h.1.slice
  obtain ⟨A2, c2, rfl⟩ := h.2.1.slice
  obtain ⟨A3, c3, rfl⟩ := h.2.2.slice
  obtain ⟨B1, d1, rfl⟩ := h'.1.slice
  obtain ⟨B2, d2, rfl⟩ := h'.2.1.slice
  obtain ⟨B3, d3, rfl⟩ := h'.2.2.slice
  clear h h' hw
  have heq := fun W : World => eqlOp W x.op y.op
  by_cases e1 : x.th = y.th
  case neg =>
    have hd := Lib.hid (call_ne (x := x) (y := y) (by rintro ⟨h, _⟩; exact e1 h))
    replace e1 : (x.th == y.th) = false := beq_eq_false_iff_ne.mpr e1
    go_enter Try.func21, Try.ntmps21
    go_wp2
    go_ret
    exact ⟨by rw [hd.out]; rfl, HW.out⟩
  have E1 := Lib.hid e1
  replace e1 : (x.th == y.th) = true := beq_iff_eq.mpr e1
  by_cases e2 : x.op = y.op
  case neg =>
    have hd := Lib.hid (call_ne (x := x) (y := y) (by rintro ⟨_, h, _⟩; exact e2 h))
    replace e2 : decide (x.op = y.op) = false := decide_eq_false e2
    rw [e2] at heq
    go_enter Try.func21, Try.ntmps21
    go_wp2
    go_ret
    exact ⟨by rw [hd.out]; rfl, HW.out⟩
  have E2 := Lib.hid e2
  replace e2 : decide (x.op = y.op) = true := decide_eq_true e2
  rw [e2] at heq
  clear e2
  by_cases e3 : x.frm = y.frm
  case neg =>
    have hd := Lib.hid (call_ne (x := x) (y := y) (by rintro ⟨_, _, h, _⟩; exact e3 h))
    replace e3 : (x.frm == y.frm) = false := beq_eq_false_iff_ne.mpr e3
    go_enter Try.func21, Try.ntmps21
    go_wp2
    go_ret
    exact ⟨by rw [hd.out]; rfl, HW.out⟩
  have E3 := Lib.hid e3
  replace e3 : (x.frm == y.frm) = true := beq_iff_eq.mpr e3
  by_cases e4 : x.to = y.to
  case neg =>
    have hd := Lib.hid (call_ne (x := x) (y := y) (by rintro ⟨_, _, _, h, _⟩; exact e4 h))
    replace e4 : (x.to == y.to) = false := beq_eq_false_iff_ne.mpr e4
    go_enter Try.func21, Try.ntmps21
    go_wp2
    go_ret
    exact ⟨by rw [hd.out]; rfl, HW.out⟩
  have hd := Lib.hid (call_eq (x := x) (y := y) ⟨E1.out, E2.out, E3.out, e4⟩)
  replace e4 : (x.to == y.to) = true := beq_iff_eq.mpr e4
  go_enter Try.func21, Try.ntmps21
  go_wp2_with fail
  refine (refSame_calls _ S _ _ _ _ _ _ _ _ H.out H'.out).mono ?_
  rintro e w1 ⟨rfl, hb1⟩
  have K1 := Lib.hid (HW.out.trans (hb1.mono (by simp; omega)))
  clear hb1
  go_wp2
  go_ret
  exact ⟨by rw [hd.out]; rfl, K1.out⟩
end Go.Proofs.Ytgpmkcipogljbaa
