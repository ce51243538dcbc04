/- HistTells. -/
import Derived.Test.YtgpmkcipogljbaaLiveH
import Derived.Test.YtgpmkcipogljbaaSameC
import Derived.Test.YtgpmkcipogljbaaPend
import Derived.Test.YtgpmkcipogljbaaReadsC
namespace Go.Proofs.Ytgpmkcipogljbaa
open Go.RowKit
set_option linter.unusedSimpArgs false
set_option linter.unusedVariables false
set_option maxRecDepth 100000 in
set_option maxHeartbeats 8000000 in
theorem histTells_walk (w : World) (x : CallD) (p1 p2 p3 : Value) (sx : Sl w (fun _ => True) x.res p1 p2 p3) (y : CallD) (q1 q2 q3 : Value) (sy : Sl w (fun _ => True) y.res q1 q2 q3) (v : Value) (l : List CallD) (hr : Row tCall w (fun _ => True) v l) (okl : ∀ x ∈ l, True) : Calls Try.prog 8 #[.agg #[.int .i64 x.th, .int .i64 x.op.kind, .int .i64 x.op.a, .int .i64 x.op.b, .int .i64 x.op.k, .int .i64 x.op.v, .int .i64 x.frm, .int .i64 x.to, .int .i64 x.res.err, .int .i64 x.res.id, p1, p2, p3], .agg #[.int .i64 y.th, .int .i64 y.op.kind, .int .i64 y.op.a, .int .i64 y.op.b, .int .i64 y.op.k, .int .i64 y.op.v, .int .i64 y.frm, .int .i64 y.to, .int .i64 y.res.err, .int .i64 y.res.id, q1, q2, q3], v] w fun e w' => e = .returned (.bool true) ∧ Below w.heap.size w w' := by
  obtain ⟨A, c, rfl⟩ := hr.slice
  have hm := hr.len
  have m1 := sx.1.len
  have m2 := sx.2.1.len
  have m3 := sx.2.2.len
  have m4 := sy.1.len
  have m5 := sy.2.1.len
  have m6 := sy.2.2.len
  unfold maxLen at hm m1 m2 m3 m4 m5 m6
  have hw : ∀ o1 o2, Below w.heap.size w ((w.alloc o1).alloc o2) := fun o1 o2 => ((Below.refl w.heap.size w).alloc (Nat.le_refl _) _).alloc (by simp) _
  have HW := Lib.hid (hw _ _ : Below w.heap.size w ((w.alloc (.cells #[.int .i64 x.th, .int .i64 x.op.kind, .int .i64 x.op.a, .int .i64 x.op.b, .int .i64 x.op.k, .int .i64 x.op.v, .int .i64 x.frm, .int .i64 x.to, .int .i64 x.res.err, .int .i64 x.res.id, p1, p2, p3] 36)).alloc (.cells #[.int .i64 y.th, .int .i64 y.op.kind, .int .i64 y.op.a, .int .i64 y.op.b, .int .i64 y.op.k, .int .i64 y.op.v, .int .i64 y.frm, .int .i64 y.to, .int .i64 y.res.err, .int .i64 y.res.id, q1, q2, q3] 36)))
  have HR := Lib.hid hr
  have SX := Lib.hid sx
  have SY := Lib.hid sy
  obtain ⟨A1, c1, rfl⟩ := sx.1.slice
  obtain ⟨A2, c2, rfl⟩ := sx.2.1.slice
  obtain ⟨A3, c3, rfl⟩ := sx.2.2.slice
  obtain ⟨B1, d1, rfl⟩ := sy.1.slice
  obtain ⟨B2, d2, rfl⟩ := sy.2.1.slice
  obtain ⟨B3, d3, rfl⟩ := sy.2.2.slice
  clear hr sx sy hw okl
  have g1 : w.heap.size < w.heap.size + 1 + 1 := by omega
  have g2 : w.heap.size + 1 < w.heap.size + 1 + 1 := by omega
  by_cases h1 : 100 < (l.length : Int)
  · skip
    go_enter Try.func8, Try.ntmps8
    go_wp2_with fail
    refine (live_calls _).mono ?_
    rintro e w1 ⟨rfl, hb1⟩
    obtain ⟨hc1, _⟩ := bcell hb1
    have K1 := Lib.hid (HW.out.trans (hb1.mono (by simp; omega)))
    clear hb1
    simp only [World.size_alloc] at hc1
    go_wp2
    go_ret
    exact ⟨rfl, K1.out⟩
  by_cases h2 : 100 < wrap64 (wrap64 ((x.res.ps.length : Int) + x.res.os.length) + x.res.is.length)
  · skip
    go_enter Try.func8, Try.ntmps8
    go_wp2_with fail
    refine (live_calls _).mono ?_
    rintro e w1 ⟨rfl, hb1⟩
    obtain ⟨hc1, _⟩ := bcell hb1
    have K1 := Lib.hid (HW.out.trans (hb1.mono (by simp; omega)))
    clear hb1
    simp only [World.size_alloc] at hc1
    go_wp2
    go_ret
    exact ⟨rfl, K1.out⟩
  by_cases h3 : 100 < wrap64 (wrap64 ((y.res.ps.length : Int) + y.res.os.length) + y.res.is.length)
  · skip
    go_enter Try.func8, Try.ntmps8
    go_wp2_with fail
    refine (live_calls _).mono ?_
    rintro e w1 ⟨rfl, hb1⟩
    obtain ⟨hc1, _⟩ := bcell hb1
    have K1 := Lib.hid (HW.out.trans (hb1.mono (by simp; omega)))
    clear hb1
    simp only [World.size_alloc] at hc1
    go_wp2
    go_ret
    exact ⟨rfl, K1.out⟩
  go_enter Try.func8, Try.ntmps8
  go_wp2_with fail
  refine (live_calls _).mono ?_
  rintro e w1 ⟨rfl, hb1⟩
  obtain ⟨hc1, _⟩ := bcell hb1
  have hs1 := hb1.size
  have K1 := Lib.hid (HW.out.trans (hb1.mono (by simp; omega)))
  clear hb1
  simp only [World.size_alloc] at hc1 hs1
  go_wp2
  refine wp_region_sched [(0, true), (1, true), (3, true), (4, true), (2, false), (5, false), (6, true), (7, true), (8, true), (9, true), (11, true), (12, true), (10, false), (13, false), (14, true), (15, true), (16, true), (17, true), (19, true), (18, false), (20, false), (21, true), (22, true), (23, true)] (Kept w1 (fun _ => True)) (by kernel_rfl) (by kernel_rfl) ?_
  have g3 : w.heap.size < w1.heap.size := by omega
  have g4 : w.heap.size + 1 < w1.heap.size := by omega
  have K1 := Lib.hid K1.out.drew
  have s1 := K1.out.size
  have HS1 := Lib.hid (Kept.refl w1 (fun _ => True)).drew
  repeat (refine sched_take (v := ?_) (by simp only [List.getElem?_toArray, List.getElem?_cons_succ, List.getElem?_cons_zero]; rfl) (Or.inl ⟨by rfl, fun W hW => ?_⟩) HS1.out ?_; rotate_left; (have hc := fun b o hb => hW.cell b o trivial hb; clear hW; go_simp; with_reducible rfl); simp only [Act.put, List.setIfInBounds_toArray, List.set_cons_zero, List.set_cons_succ])
  refine sched_step (by simp only [List.getElem?_toArray, List.getElem?_cons_succ, List.getElem?_cons_zero]; rfl) ?_
  go_wp2_with fail
  refine (before_calls _ x y _ _ _ _ _ _).mono ?_
  rintro e w2 ⟨rfl, hb2⟩
  have HS2 := Lib.hid (HS1.out.below hb2)
  have K2 := Lib.hid (K1.out.trans (hb2.mono s1))
  have s2 := K2.out.size
  clear hb2
  go_wp2_with fail
  refine sched_on HS2.out ?_
  repeat (refine sched_take (v := ?_) (by simp only [List.getElem?_toArray, List.getElem?_cons_succ, List.getElem?_cons_zero]; rfl) (Or.inl ⟨by rfl, fun W hW => ?_⟩) HS2.out ?_; rotate_left; (have hc := fun b o hb => hW.cell b o trivial hb; clear hW; go_simp; with_reducible rfl); simp only [Act.put, List.setIfInBounds_toArray, List.set_cons_zero, List.set_cons_succ])
  refine sched_step (by simp only [List.getElem?_toArray, List.getElem?_cons_succ, List.getElem?_cons_zero]; rfl) ?_
  go_wp2_with fail
  refine (refBefore_calls _ x y _ _ _ _ _ _).mono ?_
  rintro e w3 ⟨rfl, hb3⟩
  have HS3 := Lib.hid (HS2.out.below hb3)
  have K3 := Lib.hid (K2.out.trans (hb3.mono s2))
  have s3 := K3.out.size
  clear hb3
  go_wp2_with fail
  refine sched_on HS3.out ?_
  repeat (refine sched_take (v := ?_) (by simp only [List.getElem?_toArray, List.getElem?_cons_succ, List.getElem?_cons_zero]; rfl) (Or.inl ⟨by rfl, fun W hW => ?_⟩) HS3.out ?_; rotate_left; (have hc := fun b o hb => hW.cell b o trivial hb; clear hW; go_simp; with_reducible rfl); simp only [Act.put, List.setIfInBounds_toArray, List.set_cons_zero, List.set_cons_succ])
  try simp only [beq_self_eq_true]
  repeat (refine sched_take (v := ?_) (by simp only [List.getElem?_toArray, List.getElem?_cons_succ, List.getElem?_cons_zero]; rfl) (Or.inl ⟨by rfl, fun W hW => ?_⟩) HS3.out ?_; rotate_left; (have hc := fun b o hb => hW.cell b o trivial hb; clear hW; go_simp; with_reducible rfl); simp only [Act.put, List.setIfInBounds_toArray, List.set_cons_zero, List.set_cons_succ])
  have SX3 := Lib.hid (SX.out.below K3.out)
  have SY3 := Lib.hid (SY.out.below K3.out)
  refine sched_step (by simp only [List.getElem?_toArray, List.getElem?_cons_succ, List.getElem?_cons_zero]; rfl) ?_
  go_wp2_with fail
  refine (sameC_calls _ _ x y _ _ _ _ _ _ SX3.out SY3.out).mono ?_
  rintro e w4 ⟨rfl, hb4⟩
  have HS4 := Lib.hid (HS3.out.below hb4)
  have K4 := Lib.hid (K3.out.trans (hb4.mono s3))
  have s4 := K4.out.size
  clear hb4
  go_wp2_with fail
  refine sched_on HS4.out ?_
  repeat (refine sched_take (v := ?_) (by simp only [List.getElem?_toArray, List.getElem?_cons_succ, List.getElem?_cons_zero]; rfl) (Or.inl ⟨by rfl, fun W hW => ?_⟩) HS4.out ?_; rotate_left; (have hc := fun b o hb => hW.cell b o trivial hb; clear hW; go_simp; with_reducible rfl); simp only [Act.put, List.setIfInBounds_toArray, List.set_cons_zero, List.set_cons_succ])
  have SX4 := Lib.hid (SX.out.below K4.out)
  have SY4 := Lib.hid (SY.out.below K4.out)
  refine sched_step (by simp only [List.getElem?_toArray, List.getElem?_cons_succ, List.getElem?_cons_zero]; rfl) ?_
  go_wp2_with fail
  refine (refSameC_calls _ _ x y _ _ _ _ _ _ SX4.out SY4.out).mono ?_
  rintro e w5 ⟨rfl, hb5⟩
  have HS5 := Lib.hid (HS4.out.below hb5)
  have K5 := Lib.hid (K4.out.trans (hb5.mono s4))
  have s5 := K5.out.size
  clear hb5
  go_wp2_with fail
  refine sched_on HS5.out ?_
  repeat (refine sched_take (v := ?_) (by simp only [List.getElem?_toArray, List.getElem?_cons_succ, List.getElem?_cons_zero]; rfl) (Or.inl ⟨by rfl, fun W hW => ?_⟩) HS5.out ?_; rotate_left; (have hc := fun b o hb => hW.cell b o trivial hb; clear hW; go_simp; with_reducible rfl); simp only [Act.put, List.setIfInBounds_toArray, List.set_cons_zero, List.set_cons_succ])
  try simp only [beq_self_eq_true]
  repeat (refine sched_take (v := ?_) (by simp only [List.getElem?_toArray, List.getElem?_cons_succ, List.getElem?_cons_zero]; rfl) (Or.inl ⟨by rfl, fun W hW => ?_⟩) HS5.out ?_; rotate_left; (have hc := fun b o hb => hW.cell b o trivial hb; clear hW; go_simp; with_reducible rfl); simp only [Act.put, List.setIfInBounds_toArray, List.set_cons_zero, List.set_cons_succ])
  have HR5 := Lib.hid (HR.out.below K5.out)
  refine sched_step (by simp only [List.getElem?_toArray, List.getElem?_cons_succ, List.getElem?_cons_zero]; rfl) ?_
  go_wp2_with fail
  refine (pending_calls _ _ _ l HR5.out).mono ?_
  rintro e w6 ⟨rfl, hb6⟩
  have HS6 := Lib.hid (HS5.out.below hb6)
  have K6 := Lib.hid (K5.out.trans (hb6.mono s5))
  have s6 := K6.out.size
  clear hb6
  go_wp2_with fail
  refine sched_on HS6.out ?_
  repeat (refine sched_take (v := ?_) (by simp only [List.getElem?_toArray, List.getElem?_cons_succ, List.getElem?_cons_zero]; rfl) (Or.inl ⟨by rfl, fun W hW => ?_⟩) HS6.out ?_; rotate_left; (have hc := fun b o hb => hW.cell b o trivial hb; clear hW; go_simp; with_reducible rfl); simp only [Act.put, List.setIfInBounds_toArray, List.set_cons_zero, List.set_cons_succ])
  have HR6 := Lib.hid (HR.out.below K6.out)
  refine sched_step (by simp only [List.getElem?_toArray, List.getElem?_cons_succ, List.getElem?_cons_zero]; rfl) ?_
  go_wp2_with fail
  refine (refPending_calls _ _ _ l HR6.out).mono ?_
  rintro e w7 ⟨rfl, hb7⟩
  have HS7 := Lib.hid (HS6.out.below hb7)
  have K7 := Lib.hid (K6.out.trans (hb7.mono s6))
  have s7 := K7.out.size
  clear hb7
  go_wp2_with fail
  refine sched_on HS7.out ?_
  repeat (refine sched_take (v := ?_) (by simp only [List.getElem?_toArray, List.getElem?_cons_succ, List.getElem?_cons_zero]; rfl) (Or.inl ⟨by rfl, fun W hW => ?_⟩) HS7.out ?_; rotate_left; (have hc := fun b o hb => hW.cell b o trivial hb; clear hW; go_simp; with_reducible rfl); simp only [Act.put, List.setIfInBounds_toArray, List.set_cons_zero, List.set_cons_succ])
  try simp only [beq_self_eq_true]
  repeat (refine sched_take (v := ?_) (by simp only [List.getElem?_toArray, List.getElem?_cons_succ, List.getElem?_cons_zero]; rfl) (Or.inl ⟨by rfl, fun W hW => ?_⟩) HS7.out ?_; rotate_left; (have hc := fun b o hb => hW.cell b o trivial hb; clear hW; go_simp; with_reducible rfl); simp only [Act.put, List.setIfInBounds_toArray, List.set_cons_zero, List.set_cons_succ])
  first
    | refine sched_done ?_
    | (refine sched_step (by simp only [List.getElem?_toArray, List.getElem?_cons_succ, List.getElem?_cons_zero]; rfl) ?_; go_wp2_with fail; refine sched_on HS7.out ?_; refine sched_done ?_)
  go_wp2
  go_ret
  exact ⟨rfl, K7.out⟩
end Go.Proofs.Ytgpmkcipogljbaa
