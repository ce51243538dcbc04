/- Results: are they the same? -/
import Derived.Test.YtgpmkcipogljbaaEqP
namespace Go.Proofs.Ytgpmkcipogljbaa
open Go.RowKit
set_option linter.unusedSimpArgs false
set_option linter.unusedVariables false
theorem bcell {W w1 : World} (hb : Below W.heap.size W w1) : (∀ b o, b < W.heap.size → w1.cell? ⟨b, o, none⟩ = W.cell? ⟨b, o, none⟩) ∧ (∀ b o, b < W.heap.size → w1.frozen? ⟨b, o, none⟩ = W.frozen? ⟨b, o, none⟩) :=
  ⟨fun b o h => hb.cell (p := ⟨b, o, none⟩) h, fun b o h => hb.frozen (p := ⟨b, o, none⟩) h⟩
theorem res_ne {r s : ResD} (h : ¬ (r.err = s.err ∧ r.id = s.id ∧ r.ps = s.ps ∧ r.os = s.os ∧ r.is = s.is)) : decide (r = s) = false := decide_eq_false fun e => h (by rw [e]; exact ⟨rfl, rfl, rfl, rfl, rfl⟩)
theorem res_eq {r s : ResD} (h : r.err = s.err ∧ r.id = s.id ∧ r.ps = s.ps ∧ r.os = s.os ∧ r.is = s.is) : decide (r = s) = true := decide_eq_true (by cases r; cases s; simp_all)
set_option maxHeartbeats 4000000 in
theorem histSame_calls (w : World) (S : Nat → Prop) (r s : ResD) (p o i p' o' i' : Value) (h : Sl w S r p o i) (h' : Sl w S s p' o' i') : Calls Try.prog 23 #[.agg #[.int .i64 r.err, .int .i64 r.id, p, o, i], .agg #[.int .i64 s.err, .int .i64 s.id, p', o', i']] w fun e w' => e = .returned (.bool (decide (r = s))) ∧ Below w.heap.size w w' := by
  have hw : Below w.heap.size w ((w.alloc (.cells #[.int .i64 r.err, .int .i64 r.id, p, o, i] 34)).alloc (.cells #[.int .i64 s.err, .int .i64 s.id, p', o', i'] 34)) := ((Below.refl w.heap.size w).alloc (Nat.le_refl _) _).alloc (by simp) _
  have H := Lib.hid (h.below hw)
  have H' := Lib.hid (h'.below hw)
  have HW := Lib.hid hw
  obtain ⟨A1, c1, rfl⟩ := h.1.slice
  obtain ⟨A2, c2, rfl⟩ := h.2.1.slice
  obtain ⟨A3, c3, rfl⟩ := h.2.2.slice
  obtain ⟨B1, d1, rfl⟩ := h'.1.slice
  obtain ⟨B2, d2, rfl⟩ := h'.2.1.slice
  obtain ⟨B3, d3, rfl⟩ := h'.2.2.slice
  clear h h' hw
  by_cases e1 : r.err = s.err
  case neg =>
    have hd := Lib.hid (res_ne (r := r) (s := s) (by rintro ⟨x, _⟩; exact e1 x))
    replace e1 : (r.err == s.err) = false := beq_eq_false_iff_ne.mpr e1
    go_enter Try.func23, Try.ntmps23
    go_wp2
    go_ret
    exact ⟨by rw [hd.out]; rfl, HW.out⟩
  by_cases e2 : r.id = s.id
  case neg =>
    have hd := Lib.hid (res_ne (r := r) (s := s) (by rintro ⟨_, x, _⟩; exact e2 x))
    replace e2 : (r.id == s.id) = false := beq_eq_false_iff_ne.mpr e2
    replace e1 : (r.err == s.err) = true := beq_iff_eq.mpr e1
    go_enter Try.func23, Try.ntmps23
    go_wp2
    go_ret
    exact ⟨by rw [hd.out]; rfl, HW.out⟩
  have E1 := Lib.hid e1
  have E2 := Lib.hid e2
  replace e2 : (r.id == s.id) = true := beq_iff_eq.mpr e2
  replace e1 : (r.err == s.err) = true := beq_iff_eq.mpr e1
  go_enter Try.func23, Try.ntmps23
  go_wp2_with fail
  refine (eqPairs_calls _ S _ _ _ _ H.out.1 H'.out.1).mono ?_
  rintro e w1 ⟨rfl, hb1⟩
  obtain ⟨hc1, hf1⟩ := bcell hb1
  have hsz1 := hb1.size
  have HA := Lib.hid (H.out.below hb1)
  have HA' := Lib.hid (H'.out.below hb1)
  have K1 := Lib.hid (HW.out.trans (hb1.mono (by simp; omega)))
  clear hb1
  simp only [World.size_alloc] at hsz1 hc1 hf1
  have g1 : w.heap.size < w1.heap.size := by omega
  have g2 : w.heap.size + 1 < w1.heap.size := by omega
  by_cases e3 : r.ps = s.ps
  case neg =>
    have hd := Lib.hid (res_ne (r := r) (s := s) (by rintro ⟨_, _, x, _⟩; exact e3 x))
    rw [decide_eq_false e3]
    clear e3
    go_wp2
    go_ret
    exact ⟨by rw [hd.out]; rfl, K1.out⟩
  have E3 := Lib.hid e3
  rw [decide_eq_true e3]
  clear e3
  go_wp2_with fail
  refine (eqEnds_calls _ S _ _ _ _ HA.out.2.1 HA'.out.2.1).mono ?_
  rintro e w2 ⟨rfl, hb2⟩
  obtain ⟨hc2, hf2⟩ := bcell hb2
  have hsz2 := hb2.size
  have HB := Lib.hid (HA.out.below hb2)
  have HB' := Lib.hid (HA'.out.below hb2)
  have K2 := Lib.hid (K1.out.trans (hb2.mono (by omega)))
  clear hb2
  by_cases e4 : r.os = s.os
  case neg =>
    have hd := Lib.hid (res_ne (r := r) (s := s) (by rintro ⟨_, _, _, x, _⟩; exact e4 x))
    rw [decide_eq_false e4]
    clear e4
    go_wp2
    go_ret
    exact ⟨by rw [hd.out]; rfl, K2.out⟩
  have E4 := Lib.hid e4
  rw [decide_eq_true e4]
  clear e4
  go_wp2_with fail
  refine (eqEnds_calls _ S _ _ _ _ HB.out.2.2 HB'.out.2.2).mono ?_
  rintro e w3 ⟨rfl, hb3⟩
  have K3 := Lib.hid (K2.out.trans (hb3.mono (by omega)))
  clear hb3
  by_cases e5 : r.is = s.is
  case neg =>
    have hd := Lib.hid (res_ne (r := r) (s := s) (by rintro ⟨_, _, _, _, x⟩; exact e5 x))
    rw [decide_eq_false e5]
    clear e5
    go_wp2
    go_ret
    exact ⟨by rw [hd.out]; rfl, K3.out⟩
  have hd := Lib.hid (res_eq (r := r) (s := s) ⟨E1.out, E2.out, E3.out, E4.out, e5⟩)
  rw [decide_eq_true e5]
  clear e5
  go_wp2
  go_ret
  exact ⟨by rw [hd.out]; rfl, K3.out⟩
end Go.Proofs.Ytgpmkcipogljbaa
