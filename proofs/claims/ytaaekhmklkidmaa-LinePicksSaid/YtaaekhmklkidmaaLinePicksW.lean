/- LinePicks: each number picks a thread that there is. -/
import Derived.Test.YtaaekhmklkidmaaLinePlainW
import Derived.Test.YtaaekhmklkidmaaPicks
namespace Go.Proofs.Ytaaekhmklkidmaa
open Go.RowKit
set_option linter.unusedSimpArgs false
set_option linter.unusedVariables false
theorem pick_of {t x : Int} (h : 1 ≤ t) : 0 ≤ pick t x ∧ pick t x < t ∧ ∃ q, x = pick t x + t * q := by
  obtain ⟨m1, m2⟩ := tmod_bounds (t := t) (x := x) h
  have e := Int.tmod_add_mul_tdiv x t
  by_cases hn : x.tmod t < 0
  · rw [pick_neg hn]
    refine ⟨by omega, by omega, x.tdiv t - 1, ?_⟩
    rw [Int.mul_sub, Int.mul_one]
    omega
  · rw [pick_pos hn]
    exact ⟨by omega, by omega, x.tdiv t, by omega⟩
theorem pick_emod {t x : Int} (h : 1 ≤ t) : pick t x = x % t := by
  obtain ⟨h1, h2, q, hq⟩ := pick_of (x := x) h
  have : x % t = pick t x % t := by
    conv => lhs; rw [hq]
    exact Int.add_mul_emod_self_left _ _ _
  rw [this, Int.emod_eq_of_lt h1 h2]
theorem pick_far {t x b : Int} (h : 1 ≤ t) : pick t (x + b * t) = pick t x := by rw [pick_emod h, pick_emod h, Int.add_mul_emod_self_right]
theorem pick_sub {t x : Int} (h : 1 ≤ t) : (x - pick t x) % t = 0 ∧ (x - pick t x).tmod t = 0 := by
  obtain ⟨h1, h2, q, hq⟩ := pick_of (x := x) h
  have e : x - pick t x = t * q := by omega
  rw [e]
  exact ⟨Int.mul_emod_right _ _, Int.mul_tmod_right _ _⟩
theorem pick_le {t x : Int} (h : 1 ≤ t) (hx : 0 ≤ x) : pick t x ≤ x := by
  rw [pick_emod h]
  have := Int.emod_add_mul_ediv x t
  have h1 : 0 ≤ t * (x / t) := Int.mul_nonneg (by omega) (Int.ediv_nonneg hx (by omega))
  omega
theorem picksOf_at {l : List Int} {t : Int} (h : 1 ≤ t) {k : Nat} {x : Int} (hx : l[k]? = some x) : (picksOf l t)[k]? = some (pick t x) := by
  rw [picksOf, if_neg (by omega), List.getElem?_map, hx]
  rfl
theorem picksOf_length {l : List Int} {t : Int} (h : 1 ≤ t) : (picksOf l t).length = l.length := by rw [picksOf, if_neg (by omega), List.length_map]
theorem picksOf_one {t x : Int} (h : 1 ≤ t) : picksOf [x] t = [pick t x] := by rw [picksOf, if_neg (by omega)]; rfl
theorem mul_small {b t : Int} (h1 : 0 ≤ b) (h2 : b ≤ 1000) (h3 : 1 ≤ t) (h4 : t ≤ 1000) : 0 ≤ b * t ∧ b * t ≤ 1000000 := ⟨Int.mul_nonneg h1 (by omega), by
  have := Int.mul_le_mul h2 h4 (by omega : (0 : Int) ≤ t) (by omega : (0 : Int) ≤ 1000)
  omega⟩
theorem row_one (W : World) (e : TypeId) (x : Int) : Row tInt (W.alloc (.cells #[.int .i64 x] e)) (fun _ => True) (.slice (some ⟨W.heap.size, 0, none⟩) 1 1) [x] := by
  refine row_ofBox tInt W (fun _ => True) _ e [x] (by unfold maxLen; simp) trivial ?_
  intro j y hj
  refine ⟨[.int .i64 y], rfl, fun i u hu => ?_⟩
  match j, hj with
  | 0, hj =>
    cases i with
    | zero => simp at hj hu; subst hj hu; rfl
    | succ i => simp at hu
set_option maxHeartbeats 8000000 in
theorem linePicks_out (w : World) (A : Option Addr) (c : Nat) (l : List Int) (t by_ : Int) (h : 500 < (l.length : Int) ∨ t < 1 ∨ 1000 < t ∨ by_ < 0 ∨ 1000 < by_) : Calls Try.prog 7 #[.slice A l.length c, .int .i64 t, .int .i64 by_] w fun e w' => e = .returned (.bool true) ∧ Below w.heap.size w w' := by
  by_cases h1 : 500 < (l.length : Int)
  · clear h
    go_enter Try.func7, Try.ntmps7
    go_wp2_with fail
    refine (live_calls _).mono ?_
    rintro e w1 ⟨rfl, hb1⟩
    have HB1 := Lib.hid hb1
    clear hb1
    go_wp2
    go_ret
    exact ⟨rfl, HB1.out⟩
  by_cases h2 : t < 1
  · clear h
    go_enter Try.func7, Try.ntmps7
    go_wp2_with fail
    refine (live_calls _).mono ?_
    rintro e w1 ⟨rfl, hb1⟩
    have HB1 := Lib.hid hb1
    clear hb1
    go_wp2
    go_ret
    exact ⟨rfl, HB1.out⟩
  by_cases h3 : 1000 < t
  · clear h
    go_enter Try.func7, Try.ntmps7
    go_wp2_with fail
    refine (live_calls _).mono ?_
    rintro e w1 ⟨rfl, hb1⟩
    have HB1 := Lib.hid hb1
    clear hb1
    go_wp2
    go_ret
    exact ⟨rfl, HB1.out⟩
  by_cases h4 : by_ < 0
  · clear h
    go_enter Try.func7, Try.ntmps7
    go_wp2_with fail
    refine (live_calls _).mono ?_
    rintro e w1 ⟨rfl, hb1⟩
    have HB1 := Lib.hid hb1
    clear hb1
    go_wp2
    go_ret
    exact ⟨rfl, HB1.out⟩
  have h5 : 1000 < by_ := by omega
  clear h
  go_enter Try.func7, Try.ntmps7
  go_wp2_with fail
  refine (live_calls _).mono ?_
  rintro e w1 ⟨rfl, hb1⟩
  have HB1 := Lib.hid hb1
  clear hb1
  go_wp2
  go_ret
  exact ⟨rfl, HB1.out⟩
set_option maxRecDepth 100000 in
set_option maxHeartbeats 8000000 in
theorem linePicks_walk (w : World) (v : Value) (l : List Int) (hr : Row tInt w (fun _ => True) v l) (okl : ∀ x ∈ l, okI x) (t : Int) (okt : okI t) (by_ : Int) (okb : okI by_) : Calls Try.prog 7 #[v, .int .i64 t, .int .i64 by_] w fun e w' => e = .returned (.bool true) ∧ Below w.heap.size w w' := by
  obtain ⟨A, c, rfl⟩ := hr.slice
  have HR := Lib.hid hr
  have OKL := Lib.hid okl
  have OKT := Lib.hid okt
  clear hr okl okt okb
  by_cases hout : 500 < (l.length : Int) ∨ t < 1 ∨ 1000 < t ∨ by_ < 0 ∨ 1000 < by_
  · exact linePicks_out w A c l t by_ hout
  obtain ⟨q1, q2, q3, q4, q5⟩ : (l.length : Int) ≤ 500 ∧ 1 ≤ t ∧ t ≤ 1000 ∧ 0 ≤ by_ ∧ by_ ≤ 1000 := by omega
  clear hout
  obtain ⟨m1, m2⟩ := mul_small q4 q5 q2 q3
  have HL := Lib.hid (show l.length ≤ 1000000 by omega)
  have PL := Lib.hid (picksOf_length (l := l) q2)
  have PA := Lib.hid (fun (k : Nat) (x : Int) (hx : l[k]? = some x) => picksOf_at (l := l) q2 hx)
  go_enter Try.func7, Try.ntmps7
  go_wp2_with fail
  refine (live_calls _).mono ?_
  rintro e w1 ⟨rfl, hb1⟩
  have K1 := Lib.hid hb1
  clear hb1
  have s1 := K1.out.size
  have HR1 := Lib.hid (HR.out.below K1.out)
  go_wp2_with fail
  refine (picks_calls _ _ _ _ _ HR1.out HL.out OKL.out OKT.out).mono ?_
  rintro e w2 ⟨v2, rfl, ho2, hb2⟩
  generalize picksOf l t = ps at ho2 PL PA
  obtain ⟨A2, c2, rfl⟩ := ho2.slice
  have HO2 := Lib.hid ho2.row
  have K2 := Lib.hid (K1.out.trans (hb2.mono s1))
  have s2 := K2.out.size
  clear ho2 hb2
  rw [PL.out] at HO2 ⊢
  go_wp2
  go_loopw [42] (fun i wr => ∃ k : Nat, k ≤ l.length ∧ i = .int .i64 (k : Int) ∧ Hid (Below w2.heap.size w2 wr)) (fun i _ => l.length - (intOf i).toNat)
  case atStart => exact ⟨0, by omega, rfl, Below.refl _ _⟩
  case round =>
    obtain ⟨k, hk, rfl, hb⟩ := hrel
    by_cases hlt : k < l.length
    · obtain ⟨x, hx⟩ := getElem?_of_lt hlt
      obtain ⟨b, off, rfl, hbl, x0⟩ := ((HR.out.below K2.out).below hb.out).atInt hx
      obtain ⟨b2, off2, rfl, hbl2, y0⟩ := (HO2.out.below hb.out).atInt (PA.out k x hx)
      obtain ⟨ok1, ok2⟩ := OKL.out x (List.mem_of_getElem? hx)
      clear hx
      obtain ⟨p1, p2, _⟩ := pick_of (t := t) (x := x) q2
      have FAR := Lib.hid (pick_far (x := x) (b := by_) q2)
      obtain ⟨u1, u2⟩ := pick_sub (t := t) (x := x) q2
      have u3 := fun h => pick_le (t := t) (x := x) q2 h
      generalize pick t x = n at *
      have ss := hb.out.size
      have U1 := Lib.hid u1
      have U2 := Lib.hid u2
      clear u1 u2
      by_cases hx0 : 0 ≤ x
      · have u4 := u3 hx0
        have u1 := U1.out
        clear u3
        by_cases hin : x < 1152921504606846976
        · have hin' : -1152921504606846976 < x := by omega
          go_wp2_with fail
          refine (picks_calls _ _ _ _ _ (row_one _ _ _) (by simp) (fun y hy => by rw [List.mem_singleton.1 hy]; unfold okI; omega) OKT.out).mono ?_
          rintro e w3 ⟨v3, rfl, ho3, hb3⟩
          rw [picksOf_one q2, FAR.out] at ho3
          obtain ⟨A3, c3, rfl⟩ := ho3.slice
          obtain ⟨b3, off3, rfl, hbl3, z0⟩ := ho3.row.atInt (j := 0) (x := n) rfl
          rw [Nat.add_zero] at z0
          have e1 : [n].length = 1 := rfl
          rw [e1]
          have KR := Lib.hid ((hb.out.alloc ss (.cells #[.int .i64 (x + by_ * t)] 3)).trans (hb3.mono (by simp; omega)))
          clear e1 ho3 hb3
          go_wp2
          go_roundw
          case rel => exact ⟨k + 1, by omega, by first | (go_num; done) | (go_num; omega), KR⟩
          case measure => simp [intOf]; omega
        · skip
          go_wp2
          go_roundw
          case rel => exact ⟨k + 1, by omega, by first | (go_num; done) | (go_num; omega), hb⟩
          case measure => simp [intOf]; omega
      clear u3
      by_cases hf : -9223372036854775808 ≤ x - n
      · have u2 := U2.out
        by_cases hin : -1152921504606846976 < x
        · have hin' : x < 1152921504606846976 := by omega
          go_wp2_with fail
          refine (picks_calls _ _ _ _ _ (row_one _ _ _) (by simp) (fun y hy => by rw [List.mem_singleton.1 hy]; unfold okI; omega) OKT.out).mono ?_
          rintro e w3 ⟨v3, rfl, ho3, hb3⟩
          rw [picksOf_one q2, FAR.out] at ho3
          obtain ⟨A3, c3, rfl⟩ := ho3.slice
          obtain ⟨b3, off3, rfl, hbl3, z0⟩ := ho3.row.atInt (j := 0) (x := n) rfl
          rw [Nat.add_zero] at z0
          have e1 : [n].length = 1 := rfl
          rw [e1]
          have KR := Lib.hid ((hb.out.alloc ss (.cells #[.int .i64 (x + by_ * t)] 3)).trans (hb3.mono (by simp; omega)))
          clear e1 ho3 hb3
          go_wp2
          go_roundw
          case rel => exact ⟨k + 1, by omega, by first | (go_num; done) | (go_num; omega), KR⟩
          case measure => simp [intOf]; omega
        · skip
          go_wp2
          go_roundw
          case rel => exact ⟨k + 1, by omega, by first | (go_num; done) | (go_num; omega), hb⟩
          case measure => simp [intOf]; omega
      by_cases hq : (wrap64 (x - n)).tmod t = 0
      · skip
        go_wp2
        go_roundw
        case rel => exact ⟨k + 1, by omega, by first | (go_num; done) | (go_num; omega), hb⟩
        case measure => simp [intOf]; omega
      · skip
        go_wp2
        go_roundw
        case rel => exact ⟨k + 1, by omega, by first | (go_num; done) | (go_num; omega), hb⟩
        case measure => simp [intOf]; omega
    · obtain rfl : k = l.length := by omega
      go_wp2
      go_ret
      exact ⟨rfl, K2.out.trans (hb.out.mono s2)⟩
end Go.Proofs.Ytaaekhmklkidmaa
