/- HistReads: whether a history may be, and its calls. -/
import Derived.Test.YtgpmkcipogljbaaRefCalls
import Derived.Test.YtgpmkcipogljbaaHistThreadsW
namespace Go.Proofs.Ytgpmkcipogljbaa
open Go.RowKit
set_option linter.unusedSimpArgs false
set_option linter.unusedVariables false
set_option maxRecDepth 100000 in
set_option maxHeartbeats 4000000 in
theorem sameAll_calls (w : World) (S : Nat → Prop) (va vb : Value) (a b : List CallD) (ha : Row tCall w S va a) (hb : Row tCall w S vb b) (hab : a = b) : Calls Try.prog 16 #[va, vb] w fun e w' => e = .returned (.bool true) ∧ Below w.heap.size w w' := by
  subst hab
  obtain ⟨A, c, rfl⟩ := ha.slice
  obtain ⟨B, d, rfl⟩ := hb.slice
  have hm := ha.len
  unfold maxLen at hm
  have HA := Lib.hid ha
  have HB := Lib.hid hb
  clear ha hb
  go_enter Try.func16, Try.ntmps16
  go_wp2
  go_loopw [13] (fun p wr => ∃ k : Nat, k ≤ a.length ∧ p = .int .i64 (k : Int) ∧ Hid (Below w.heap.size w wr)) (fun p _ => a.length - (intOf p).toNat)
  case atStart => exact ⟨0, by omega, rfl, Below.refl _ _⟩
  case round =>
    obtain ⟨wa, rfl⟩ : ∃ wa, wa = wr := ⟨wr, rfl⟩
    obtain ⟨k, hk, rfl, hb⟩ := hrel
    have hwr := hb.out.size
    by_cases hlt : k < a.length
    case neg =>
      go_wp2
      go_ret
      exact ⟨rfl, hb.out⟩
    obtain ⟨x, hx⟩ := getElem?_of_lt hlt
    obtain ⟨b1, off, a1, d1, a2, d2, a3, d3, rfl, hbl, hs1, x0, x1, x2, x3, x4, x5, x6, x7, x8, x9, x10, x11, x12⟩ := (HA.out.below hb.out).atCallF hx
    obtain ⟨b2, off', a1', d1', a2', d2', a3', d3', rfl, hbl', hs2, y0, y1, y2, y3, y4, y5, y6, y7, y8, y9, y10, y11, y12⟩ := (HB.out.below hb.out).atCallF hx
    have HS1 := Lib.hid hs1
    have HS2 := Lib.hid hs2
    clear hx hs1 hs2
    go_wp2_with fail
    refine wp_region_schedK (fun _ => True) [(0, true), (1, true), (2, true), (3, true), (4, true), (5, true), (6, true), (7, true), (8, false), (9, true)] (by kernel_rfl) (by kernel_rfl) (fun hS => ?_)
    have HS := Lib.hid hS
    clear hS
    repeat (refine sched_take (v := ?_) (by simp only [List.getElem?_toArray, List.getElem?_cons_succ, List.getElem?_cons_zero]; rfl) (Or.inl ⟨by rfl, fun W hW => ?_⟩) HS.out ?_; rotate_left; (have hc := fun b o hb => hW.cell b o trivial hb; clear hW; go_simp; with_reducible rfl); simp only [Act.put, List.setIfInBounds_toArray, List.set_cons_zero, List.set_cons_succ])
    clear x0 x1 x2 x3 x4 x5 x6 x7 x8 x9 x10 x11 x12 y0 y1 y2 y3 y4 y5 y6 y7 y8 y9 y10 y11 y12
    refine sched_step (by simp only [List.getElem?_toArray, List.getElem?_cons_succ, List.getElem?_cons_zero]; rfl) ?_
    go_wp2_with fail
    refine (refSameC_calls _ S x x _ _ _ _ _ _ (HS1.out.below (Below.refl _ _).drew) (HS2.out.below (Below.refl _ _).drew)).mono ?_
    rintro e w1 ⟨rfl, hb1⟩
    rw [decide_eq_true rfl]
    have HS1' := Lib.hid (HS.out.below hb1)
    have K1 := Lib.hid (hb.out.trans (((Below.refl wa.heap.size wa).drew.trans hb1).mono hwr))
    clear hb1
    go_wp2_with fail
    refine sched_on HS1'.out ?_
    repeat (refine sched_take (v := ?_) (by simp only [List.getElem?_toArray, List.getElem?_cons_succ, List.getElem?_cons_zero]; rfl) (Or.inl ⟨by rfl, fun W hW => ?_⟩) HS1'.out ?_; rotate_left; (have hc := fun b o hb => hW.cell b o trivial hb; clear hW; go_simp; with_reducible rfl); simp only [Act.put, List.setIfInBounds_toArray, List.set_cons_zero, List.set_cons_succ])
    refine sched_done ?_
    go_wp2
    go_roundw
    case rel => exact ⟨k + 1, by omega, by first | (go_num; done) | (go_num; omega), K1⟩
    case measure => simp [intOf]; omega
set_option maxRecDepth 100000 in
set_option maxHeartbeats 8000000 in
theorem histReads_walk (w : World) (v : Value) (l : List EvD) (hr : Row tEv w (fun _ => True) v l) (okl : ∀ x ∈ l, okI x.th) : Calls Try.prog 4 #[v] w fun e w' => e = .returned (.bool true) ∧ Below w.heap.size w w' := by
  obtain ⟨A, c, rfl⟩ := hr.slice
  have HR := Lib.hid hr
  have OK := Lib.hid okl
  clear hr okl
  go_enter Try.func4, Try.ntmps4
  go_wp2_with fail
  refine (live_calls _).mono ?_
  rintro e w1 ⟨rfl, hb1⟩
  have K1 := Lib.hid hb1
  clear hb1
  have s1 := K1.out.size
  have HR1 := Lib.hid (HR.out.below K1.out)
  go_wp2_with fail
  refine (few_calls _ _ _ _ _ HR1.out).mono ?_
  rintro e w2 ⟨rfl, hb2⟩
  have K2 := Lib.hid (K1.out.trans (hb2.mono s1))
  clear hb2
  have s2 := K2.out.size
  have HR2 := Lib.hid (HR.out.below K2.out)
  cases hfew : fewOf l 100
  · clear hfew
    go_wp2
    go_ret
    exact ⟨rfl, K2.out⟩
  have HF := Lib.hid (small_few hfew)
  clear hfew
  have HL := Lib.hid (show l.length ≤ 1000000 by have := HF.out.2; omega)
  go_wp2_with fail
  refine (calls_calls _ _ _ _ HR2.out HL.out HF.out.1 OK.out).mono ?_
  rintro e w3 ⟨v3, rfl, ho3, hb3⟩
  have K3 := Lib.hid (K2.out.trans (hb3.mono s2))
  have s3 := K3.out.size
  have HO3 := Lib.hid (ho3.mono fun _ _ _ => (trivial : (fun _ => True) _))
  have HR3 := Lib.hid (HR.out.below K3.out)
  clear hb3 ho3
  go_wp2_with fail
  refine (refCalls_calls _ _ _ HR3.out HL.out OK.out).mono ?_
  rintro e w4 ⟨v4, rfl, ho4, hb4⟩
  have K4 := Lib.hid (K3.out.trans (hb4.mono s3))
  have s4 := K4.out.size
  have HO3 := Lib.hid (HO3.out.below hb4)
  have HO4 := Lib.hid ho4
  have HR4 := Lib.hid (HR.out.below K4.out)
  clear hb4 ho4
  go_wp2_with fail
  refine (check_calls _ _ _ _ HR4.out HL.out HF.out.1 OK.out).mono ?_
  rintro e w5 ⟨rfl, hb5⟩
  have K5 := Lib.hid (K4.out.trans (hb5.mono s4))
  have s5 := K5.out.size
  have HO3 := Lib.hid (HO3.out.below hb5)
  have HO4 := Lib.hid (HO4.out.below hb5)
  have HR5 := Lib.hid (HR.out.below K5.out)
  clear hb5
  go_wp2_with fail
  refine (refCheck_calls _ _ _ _ HR5.out HL.out OK.out).mono ?_
  rintro e w6 ⟨rfl, hb6⟩
  have K6 := Lib.hid (K5.out.trans (hb6.mono s5))
  have s6 := K6.out.size
  have HO3 := Lib.hid (HO3.out.below hb6)
  have HO4 := Lib.hid (HO4.out.below hb6)
  clear hb6
  have heq : (errOf (runL l) == errOf (runL l)) = true := beq_self_eq_true _
  go_wp2_with fail
  refine (sameAll_calls _ _ _ _ _ _ HO3.out HO4.out rfl).mono ?_
  rintro e w7 ⟨rfl, hb7⟩
  have K7 := Lib.hid (K6.out.trans (hb7.mono s6))
  clear hb7
  go_wp2
  go_ret
  exact ⟨rfl, K7.out⟩
end Go.Proofs.Ytgpmkcipogljbaa
