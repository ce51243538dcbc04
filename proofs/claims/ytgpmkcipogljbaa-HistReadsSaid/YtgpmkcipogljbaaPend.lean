/- Pending, of hist and of the reference. -/
import Derived.Test.YtgpmkcipogljbaaFew
namespace Go.Proofs.Ytgpmkcipogljbaa
open Go.RowKit
set_option linter.unusedSimpArgs false
set_option linter.unusedVariables false
def pendOf (l : List CallD) : Int := ((l.filter fun c => decide (c.to < 0)).length : Int)
theorem pendOf_succ {l : List CallD} {k : Nat} {x : CallD} (h : l[k]? = some x) : pendOf (l.take (k + 1)) = pendOf (l.take k) + (if x.to < 0 then 1 else 0) := by
  unfold pendOf
  rw [List.take_add_one, h, Option.toList_some, List.filter_append, List.length_append]
  by_cases hn : x.to < 0
  · simp [hn]
  · simp [hn]
theorem pendOf_nonneg (l : List CallD) : 0 ≤ pendOf l := by unfold pendOf; omega
theorem pendOf_le (l : List CallD) (k : Nat) : pendOf (l.take k) ≤ (k : Int) := by
  unfold pendOf
  have h1 := List.length_filter_le (fun c : CallD => decide (c.to < 0)) (l.take k)
  rw [List.length_take] at h1
  omega
set_option maxRecDepth 100000 in
set_option maxHeartbeats 2000000 in
theorem pending_calls (w : World) (S : Nat → Prop) (v : Value) (l : List CallD) (h : Row tCall w S v l) : Calls Try.prog 19 #[v] w fun e w' => e = .returned (.int .i64 (pendOf l)) ∧ Below w.heap.size w w' := by
  obtain ⟨A, c, rfl⟩ := h.slice
  have hm := h.len
  unfold maxLen at hm
  have H := Lib.hid h
  clear h
  go_enter Try.func19, Try.ntmps19
  go_wp2
  go_loopw [3, 8] (fun o i wr => ∃ k : Nat, k ≤ l.length ∧ i = .int .i64 (k : Int) ∧ o = .int .i64 (pendOf (l.take k)) ∧ Hid (Below w.heap.size w wr)) (fun _ i _ => l.length - (intOf i).toNat)
  case atStart => exact ⟨0, Nat.zero_le _, rfl, rfl, Below.refl _ _⟩
  case round =>
    obtain ⟨k, hk, rfl, rfl, hb⟩ := hrel
    have hwr := hb.out.size
    by_cases hlt : k < l.length
    · obtain ⟨x, hx⟩ := getElem?_of_lt hlt
      obtain ⟨b, off, a1, d1, a2, d2, a3, d3, rfl, hbl, _, x0, x1, x2, x3, x4, x5, x6, x7, x8, x9, x10, x11, x12⟩ := (H.out.below hb.out).atCallF hx
      have HS := Lib.hid (pendOf_succ hx)
      have hp1 := pendOf_nonneg (l.take k)
      have hp2 := pendOf_le l k
      clear hx
      by_cases hn : x.to < 0
      · have HE := Lib.hid (show pendOf (l.take (k + 1)) = pendOf (l.take k) + 1 by rw [HS.out, if_pos hn])
        generalize pendOf (l.take k) = m at *
        go_wp2
        go_roundw
        case rel => exact ⟨k + 1, by omega, by first | (go_num; done) | (go_num; omega), by rw [HE.out], hb.out.alloc hwr _⟩
        case measure => simp [intOf]; omega
      · have HE := Lib.hid (show pendOf (l.take (k + 1)) = pendOf (l.take k) by rw [HS.out, if_neg hn]; omega)
        generalize pendOf (l.take k) = m at *
        go_wp2
        go_roundw
        case rel => exact ⟨k + 1, by omega, by first | (go_num; done) | (go_num; omega), by rw [HE.out], hb.out.alloc hwr _⟩
        case measure => simp [intOf]; omega
    · have hk2 : l.take k = l := List.take_of_length_le (by omega)
      rw [hk2]
      clear hk2
      go_wp2
      go_ret
      exact ⟨rfl, hb.out⟩
set_option maxRecDepth 100000 in
set_option maxHeartbeats 2000000 in
theorem refPending_calls (w : World) (S : Nat → Prop) (v : Value) (l : List CallD) (h : Row tCall w S v l) : Calls Try.prog 22 #[v] w fun e w' => e = .returned (.int .i64 (pendOf l)) ∧ Below w.heap.size w w' := by
  obtain ⟨A, c, rfl⟩ := h.slice
  have hm := h.len
  unfold maxLen at hm
  have H := Lib.hid h
  clear h
  go_enter Try.func22, Try.ntmps22
  go_wp2
  go_loopw [3, 8] (fun o i wr => ∃ k : Nat, k ≤ l.length ∧ i = .int .i64 (k : Int) ∧ o = .int .i64 (pendOf (l.take k)) ∧ Hid (Below w.heap.size w wr)) (fun _ i _ => l.length - (intOf i).toNat)
  case atStart => exact ⟨0, Nat.zero_le _, rfl, rfl, Below.refl _ _⟩
  case round =>
    obtain ⟨k, hk, rfl, rfl, hb⟩ := hrel
    have hwr := hb.out.size
    by_cases hlt : k < l.length
    · obtain ⟨x, hx⟩ := getElem?_of_lt hlt
      obtain ⟨b, off, a1, d1, a2, d2, a3, d3, rfl, hbl, _, x0, x1, x2, x3, x4, x5, x6, x7, x8, x9, x10, x11, x12⟩ := (H.out.below hb.out).atCallF hx
      have HS := Lib.hid (pendOf_succ hx)
      have hp1 := pendOf_nonneg (l.take k)
      have hp2 := pendOf_le l k
      clear hx
      by_cases hn : x.to < 0
      · have HE := Lib.hid (show pendOf (l.take (k + 1)) = pendOf (l.take k) + 1 by rw [HS.out, if_pos hn])
        generalize pendOf (l.take k) = m at *
        go_wp2
        go_roundw
        case rel => exact ⟨k + 1, by omega, by first | (go_num; done) | (go_num; omega), by rw [HE.out], hb.out.alloc hwr _⟩
        case measure => simp [intOf]; omega
      · have HE := Lib.hid (show pendOf (l.take (k + 1)) = pendOf (l.take k) by rw [HS.out, if_neg hn]; omega)
        generalize pendOf (l.take k) = m at *
        go_wp2
        go_roundw
        case rel => exact ⟨k + 1, by omega, by first | (go_num; done) | (go_num; omega), by rw [HE.out], hb.out.alloc hwr _⟩
        case measure => simp [intOf]; omega
    · have hk2 : l.take k = l := List.take_of_length_le (by omega)
      rw [hk2]
      clear hk2
      go_wp2
      go_ret
      exact ⟨rfl, hb.out⟩
end Go.Proofs.Ytgpmkcipogljbaa
