/- The document's next, nth and check. -/
import Derived.Test.YtgpmkcipogljbaaRefLaw
import Derived.Test.YtgpmkcipogljbaaSameC
import Derived.Test.YtgpmkcipogljbaaSchedK
namespace Go.Proofs.Ytgpmkcipogljbaa
open Go.RowKit
set_option linter.unusedSimpArgs false
set_option linter.unusedVariables false
set_option maxRecDepth 100000 in
set_option maxHeartbeats 2000000 in
theorem next_calls (w : World) (S : Nat → Prop) (v : Value) (l : List EvD) (h : Row tEv w S v l) (hlen : l.length ≤ 1000000) {i : Nat} {x : EvD} (hi : l[i]? = some x) : Calls Try.prog 25 #[v, .int .i64 (i : Int)] w fun e w' => ∃ r : Int, e = .returned (.int .i64 r) ∧ IsNext l x.th i r ∧ Below w.heap.size w w' := by
  obtain ⟨A, c, rfl⟩ := h.slice
  have H := Lib.hid h
  have hil : i < l.length := (List.getElem?_eq_some_iff.1 hi).1
  have HI := Lib.hid hi
  clear h hi
  go_enter Try.func25, Try.ntmps25
  go_wp2
  go_loopw [5] (fun o wr => ∃ k : Nat, i < k ∧ k ≤ l.length ∧ o = .int .i64 (k : Int) ∧ Hid (∀ (m : Nat) (y : EvD), i < m → m < k → l[m]? = some y → y.th ≠ x.th) ∧ Hid (Below w.heap.size w wr)) (fun o _ => l.length - (intOf o).toNat)
  case atStart => exact ⟨i + 1, by omega, by omega, by first | (go_num; done) | (go_num; omega) | rfl, (fun m y h1 h2 => by omega), Below.refl _ _⟩
  case round =>
    obtain ⟨k, hik, hk, rfl, hno, hb⟩ := hrel
    have hwr := hb.out.size
    by_cases hlt : k < l.length
    · obtain ⟨y, hy⟩ := getElem?_of_lt hlt
      obtain ⟨b, off, a1, d1, a2, d2, a3, d3, rfl, hbl, _, x0, x1, x2, x3, x4, x5, x6, x7, x8, x9, x10, x11⟩ := (H.out.below hb.out).atEvF HI.out
      obtain ⟨b', off', a1', d1', a2', d2', a3', d3', hA, _, _, y0, y1, y2, y3, y4, y5, y6, y7, y8, y9, y10, y11⟩ := (H.out.below hb.out).atEvF hy
      injection hA with hA
      injection hA with h1 h2
      subst h1 h2
      have HY := Lib.hid hy
      clear hy x1 x2 x3 x4 x5 x6 x7 x8 x9 x10 x11 y1 y2 y3 y4 y5 y6 y7 y8 y9 y10 y11
      go_wp2_with fail
      refine wp_region_schedK (fun _ => True) [(0, true), (1, true), (2, true), (3, true), (4, true), (5, true), (6, true), (7, true), (8, true), (9, true), (10, true)] (by kernel_rfl) (by kernel_rfl) (fun hS => ?_)
      have HS := Lib.hid hS
      clear hS
      repeat (refine sched_take (v := ?_) (by simp only [List.getElem?_toArray, List.getElem?_cons_succ, List.getElem?_cons_zero]; rfl) (Or.inl ⟨by rfl, fun W hW => ?_⟩) HS.out ?_; rotate_left; (have hc := fun b o hb => hW.cell b o trivial hb; clear hW; go_simp; with_reducible rfl); simp only [Act.put, List.setIfInBounds_toArray, List.set_cons_zero, List.set_cons_succ])
      refine sched_done ?_
      by_cases hth : y.th = x.th
      · have HT := Lib.hid hth
        replace hth : (y.th == x.th) = true := beq_iff_eq.mpr hth
        go_wp2
        go_ret
        exact ⟨_, rfl, .inr ⟨k, y, rfl, hik, HY.out, HT.out, hno.out⟩, hb.out.drew⟩
      · have HT := Lib.hid hth
        replace hth : (y.th == x.th) = false := beq_eq_false_iff_ne.mpr hth
        go_wp2
        go_roundw
        case rel => exact ⟨k + 1, by omega, by omega, by first | (go_num; done) | (go_num; omega), Lib.hid (fun m z h1 h2 hz => by
          rcases Nat.lt_or_ge m k with h3 | h3
          · exact hno.out m z h1 h3 hz
          · obtain rfl : m = k := by omega
            rw [HY.out] at hz
            injection hz with hz
            subst hz
            exact HT.out), Lib.hid hb.out.drew⟩
        case measure => simp [intOf]; omega
    · obtain rfl : k = l.length := by omega
      go_wp2
      go_ret
      exact ⟨_, rfl, .inl ⟨rfl, fun m y h1 hy => hno.out m y h1 (List.getElem?_eq_some_iff.1 hy).1 hy⟩, hb.out⟩
set_option maxRecDepth 100000 in
set_option maxHeartbeats 2000000 in
theorem nth_calls (w : World) (S : Nat → Prop) (v : Value) (l : List EvD) (h : Row tEv w S v l) (hlen : l.length ≤ 1000000) {i : Nat} {x : EvD} (hi : l[i]? = some x) : Calls Try.prog 26 #[v, .int .i64 (i : Int)] w fun e w' => e = .returned (.int .i64 (cntT (l.take i) x.th : Int)) ∧ Below w.heap.size w w' := by
  obtain ⟨A, c, rfl⟩ := h.slice
  have H := Lib.hid h
  have hil : i < l.length := (List.getElem?_eq_some_iff.1 hi).1
  have HI := Lib.hid hi
  obtain ⟨_, hcap, hcap2, _⟩ := H.out.n_eq
  unfold maxLen at hcap2
  clear h hi
  go_enter Try.func26, Try.ntmps26
  obtain ⟨b, off, _, _, _, _, _, _, rfl, _⟩ := H.out.atEvF HI.out
  go_wp2
  go_loopw [5, 12] (fun o p wr => ∃ k : Nat, k ≤ i ∧ p = .int .i64 (k : Int) ∧ o = .int .i64 (cntT (l.take k) x.th : Int) ∧ Hid (Below w.heap.size w wr)) (fun _ p _ => i - (intOf p).toNat)
  case atStart => exact ⟨0, by omega, rfl, rfl, Below.refl _ _⟩
  case round =>
    obtain ⟨k, hk, rfl, rfl, hb⟩ := hrel
    have hwr := hb.out.size
    by_cases hlt : k < i
    · have hlt2 : k < l.length := by omega
      obtain ⟨y, hy⟩ := getElem?_of_lt hlt2
      obtain ⟨b', off', _, _, _, _, _, _, hA', hbl, _, x0, x1, x2, x3, x4, x5, x6, x7, x8, x9, x10, x11⟩ := (H.out.below hb.out).atEvF HI.out
      injection hA' with hA'
      injection hA' with h1 h2
      subst h1 h2
      obtain ⟨b', off', a1', d1', a2', d2', a3', d3', hA, _, _, y0, y1, y2, y3, y4, y5, y6, y7, y8, y9, y10, y11⟩ := (H.out.below hb.out).atEvF hy
      injection hA with hA
      injection hA with h1 h2
      subst h1 h2
      have hcs := cntT_succ hy x.th
      have hcl : cntT (l.take k) x.th ≤ k := by
        unfold cntT
        have h1 := List.length_filter_le (fun y : EvD => decide (y.th = x.th)) (l.take k)
        rw [List.length_take] at h1
        omega
      clear hy x1 x2 x3 x4 x5 x6 x7 x8 x9 x10 x11
      have g1 : wr.heap.size < wr.heap.size + 1 := by omega
      have g2 : b < wr.heap.size + 1 := by omega
      go_wp2_with fail
      refine wp_region_schedK (fun _ => True) [(0, true), (1, true), (2, true), (3, true), (4, true), (5, true), (6, true), (7, true)] (by kernel_rfl) (by kernel_rfl) (fun hS => ?_)
      have HS := Lib.hid hS
      clear hS
      repeat (refine sched_take (v := ?_) (by simp only [List.getElem?_toArray, List.getElem?_cons_succ, List.getElem?_cons_zero]; rfl) (Or.inl ⟨by rfl, fun W hW => ?_⟩) HS.out ?_; rotate_left; (have hc := fun b o hb => hW.cell b o trivial hb; clear hW; go_simp; with_reducible rfl); simp only [Act.put, List.setIfInBounds_toArray, List.set_cons_zero, List.set_cons_succ])
      refine sched_done ?_
      by_cases hth : y.th = x.th
      · rw [if_pos hth] at hcs
        have HCS := Lib.hid hcs
        replace hth : (y.th == x.th) = true := beq_iff_eq.mpr hth
        clear hcs
        generalize cntT (l.take k) x.th = n at *
        go_wp2
        go_roundw
        case rel => exact ⟨k + 1, by omega, by first | (go_num; done) | (go_num; omega), by rw [HCS.out]; first | (go_num; done) | (go_num; omega), Lib.hid ((hb.out.alloc (by omega) _).drew)⟩
        case measure => simp [intOf]; omega
      · rw [if_neg hth] at hcs
        have HCS := Lib.hid hcs
        replace hth : (y.th == x.th) = false := beq_eq_false_iff_ne.mpr hth
        clear hcs
        generalize cntT (l.take k) x.th = n at *
        go_wp2
        go_roundw
        case rel => exact ⟨k + 1, by omega, by first | (go_num; done) | (go_num; omega), by rw [HCS.out]; rfl, Lib.hid ((hb.out.alloc (by omega) _).drew)⟩
        case measure => simp [intOf]; omega
    · obtain rfl : k = i := by omega
      go_wp2
      go_ret
      exact ⟨rfl, hb.out⟩
end Go.Proofs.Ytgpmkcipogljbaa
