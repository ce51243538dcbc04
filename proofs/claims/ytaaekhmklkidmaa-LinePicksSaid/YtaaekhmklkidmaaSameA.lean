/- The references' Same, of operations and of numbers: are two lists the same? -/
import Derived.Test.YtaaekhmklkidmaaOpB
import Derived.Test.YtaaekhmklkidmaaLib2
import Derived.Test.YtaaekhmklkidmaaEq
import Derived.Test.YtaaekhmklkidmaaOpC
namespace Go.Proofs.Ytaaekhmklkidmaa
open Go.RowKit
set_option linter.unusedSimpArgs false
set_option linter.unusedVariables false
set_option maxHeartbeats 2000000 in
theorem sameOps_calls (w : World) (S : Nat → Prop) (v1 v2 : Value) (xs ys : List OpD) (h1 : Row tOp w S v1 xs) (h2 : Row tOp w S v2 ys) : Calls Try.prog 14 #[v1, v2] w fun e w' => e = .returned (.bool (decide (xs = ys))) ∧ Below w.heap.size w w' := by
  obtain ⟨A, c, rfl⟩ := h1.slice
  obtain ⟨B, d, rfl⟩ := h2.slice
  have hm := h1.len
  unfold maxLen at hm
  by_cases hl : xs.length = ys.length
  case neg =>
    have hne : decide (xs = ys) = false := decide_eq_false (by rintro rfl; exact hl rfl)
    rw [hne]
    clear hne
    have hl1 : ((xs.length : Int) == (ys.length : Int)) = false := beq_eq_false_iff_ne.mpr (by omega)
    have hl2 : ((xs.length : Int) != (ys.length : Int)) = true := by rw [bne_iff_ne]; omega
    clear h1 h2
    go_enter Try.func14, Try.ntmps14
    go_wp2
    go_ret
    exact ⟨rfl, Below.refl _ _⟩
  have H1 := Lib.hid h1
  have H2 := Lib.hid h2
  have hl1 : ((xs.length : Int) == (ys.length : Int)) = true := beq_iff_eq.mpr (by omega)
  have hl2 : ((xs.length : Int) != (ys.length : Int)) = false := by rw [bne_eq_false_iff_eq]; omega
  have HL := Lib.hid hl
  clear h1 h2 hl
  go_enter Try.func14, Try.ntmps14
  go_wp2
  go_loopw [13] (fun i wr => ∃ k : Nat, k ≤ xs.length ∧ i = .int .i64 k ∧ Hid (∀ j, j < k → xs[j]? = ys[j]?) ∧ Below w.heap.size w wr) (fun i _ => xs.length - (intOf i).toNat)
  case atStart => exact ⟨0, Nat.zero_le _, rfl, fun j hj => absurd hj (by omega), Below.refl _ _⟩
  case round =>
    obtain ⟨k, hk, rfl, he, hb⟩ := hrel
    have HB := Lib.hid hb
    clear hb
    by_cases hlt : k < xs.length
    · obtain ⟨x, hx⟩ := getElem?_of_lt hlt
      obtain ⟨y, hy⟩ := getElem?_of_lt (show k < ys.length by have := HL.out; omega)
      obtain ⟨b1, o1, rfl, hb1, x0, x1, x2, x3, x4⟩ := (H1.out.below HB.out).atOp hx
      obtain ⟨b2, o2, rfl, hb2, y0, y1, y2, y3, y4⟩ := (H2.out.below HB.out).atOp hy
      have hlt2 : k < ys.length := by have := HL.out; omega
      have HX := Lib.hid hx
      have HY := Lib.hid hy
      clear hx hy
      go_wp2
      refine wp_region_sched [(0, true), (1, true), (2, true), (3, true), (4, true), (5, true), (6, true), (7, true), (8, true)] (Kept wr (fun _ => True)) (by kernel_rfl) (by kernel_rfl) ?_
      have HS := Lib.hid (Kept.refl wr (fun _ => True)).drew
      repeat (refine sched_take (v := ?_) (by simp only [List.getElem?_toArray, List.getElem?_cons_succ, List.getElem?_cons_zero]; rfl) (Or.inl ⟨by rfl, fun W hW => ?_⟩) HS.out ?_; rotate_left; (have hc := fun b o hb => hW.cell b o trivial hb; clear hW; go_simp; with_reducible rfl); simp only [Act.put, List.setIfInBounds_toArray, List.set_cons_zero, List.set_cons_succ])
      refine sched_take (v := .bool (!decide (x = y))) (by simp only [List.getElem?_toArray, List.getElem?_cons_succ, List.getElem?_cons_zero]; rfl) (Or.inl ⟨by rfl, fun W _ => exec_neqOp W x y rfl rfl rfl⟩) HS.out ?_
      simp only [Act.put, List.setIfInBounds_toArray, List.set_cons_zero, List.set_cons_succ]
      refine sched_done ?_
      by_cases hxy : x = y
      · have hd : (!decide (x = y)) = false := by simp [hxy]
        rw [hd]
        have HE := Lib.hid hxy
        clear hd hxy
        go_wp2
        go_roundw
        case rel => exact ⟨k + 1, by omega, by go_num, fun j hj => (by
          rcases Nat.lt_or_ge j k with h | h
          · exact he.out j h
          · obtain rfl : j = k := by omega
            rw [HX.out, HY.out, HE.out]), HB.out.drew⟩
        case measure => simp [intOf]; omega
      · have hd : (!decide (x = y)) = true := by simp [hxy]
        rw [hd]
        have hne : decide (xs = ys) = false := decide_eq_false (fun e => hxy (by have h1 := HX.out; have h2 := HY.out; rw [e, h2] at h1; injection h1 with h1; exact h1.symm))
        have HN := Lib.hid hne
        clear hd hxy hne
        go_wp2
        go_ret
        exact ⟨by rw [HN.out]; rfl, HB.out.drew⟩
    · obtain rfl : k = xs.length := by omega
      have hy : decide (xs = ys) = true := decide_eq_true (eq_of_getElem? HL.out fun j hj => he.out j hj)
      have HN := Lib.hid hy
      clear hy
      go_wp2
      go_ret
      exact ⟨by rw [HN.out]; rfl, HB.out⟩
end Go.Proofs.Ytaaekhmklkidmaa
