/- The document's check of a history. -/
import Derived.Test.YtgpmkcipogljbaaRefC
namespace Go.Proofs.Ytgpmkcipogljbaa
open Go.RowKit
set_option linter.unusedSimpArgs false
set_option linter.unusedVariables false
theorem err_bad {l : List EvD} {k : Nat} {x : EvD} (hx : l[k]? = some x) (h : ¬ RefAt l k x) : errOf (runL l) = 1 := by
  cases hr : runL l with
  | none => rfl
  | some t => exact absurd (ok_of_run hr k x hx) h
theorem err_ok {l : List EvD} (h : RefOK l) : errOf (runL l) = 0 := by
  obtain ⟨t, ht⟩ := run_of_ok h
  rw [ht]
  rfl
set_option maxRecDepth 100000 in
set_option maxHeartbeats 8000000 in
theorem refCheck_calls (w : World) (S : Nat → Prop) (v : Value) (l : List EvD) (h : Row tEv w S v l) (hlen : l.length ≤ 1000000) (okl : ∀ x ∈ l, okI x.th) : Calls Try.prog 15 #[v] w fun e w' => e = .returned (.int .i64 (errOf (runL l))) ∧ Below w.heap.size w w' := by
  obtain ⟨A, c, rfl⟩ := h.slice
  have H := Lib.hid h
  have OK := Lib.hid okl
  clear h okl
  go_enter Try.func15, Try.ntmps15
  go_wp2
  go_loopw [8] (fun p wr => ∃ k : Nat, k ≤ l.length ∧ p = .int .i64 (k : Int) ∧ Hid (∀ (i : Nat) (x : EvD), i < k → l[i]? = some x → RefAt l i x) ∧ Hid (Below w.heap.size w wr)) (fun p _ => l.length - (intOf p).toNat)
  case atStart => exact ⟨0, by omega, rfl, (fun i x h => by omega), Below.refl _ _⟩
  case round =>
    obtain ⟨wa, rfl⟩ : ∃ wa, wa = wr := ⟨wr, rfl⟩
    obtain ⟨k, hk, rfl, hall, hb⟩ := hrel
    have hwr := hb.out.size
    by_cases hlt : k < l.length
    case neg =>
      obtain rfl : k = l.length := by omega
      have he := err_ok (fun i x hx => hall.out i x (List.getElem?_eq_some_iff.1 hx).1 hx)
      go_wp2
      go_ret
      exact ⟨by rw [he]; rfl, hb.out⟩
    obtain ⟨x, hx⟩ := getElem?_of_lt hlt
    obtain ⟨xth, xdn, xop, xres⟩ := x
    obtain ⟨b, off, a1, d1, a2, d2, a3, d3, rfl, hbl, hs1, x0, x1, x2, x3, x4, x5, x6, x7, x8, x9, x10, x11⟩ := (H.out.below hb.out).atEvF hx
    have HX := Lib.hid hx
    have HS1 := Lib.hid hs1
    obtain ⟨o1, o2⟩ := OK.out _ (List.mem_of_getElem? hx)
    clear hs1
    simp only at x0 x1 x2 x3 x4 x5 x6 x7 x8 x9 x10 x11 o1 o2
    have g1 : wa.heap.size < wa.heap.size + 1 := by omega
    have g2 : b < wa.heap.size + 1 := by omega
    have KB := Lib.hid ((Below.refl wa.heap.size wa).alloc (Nat.le_refl _) (.cells #[.int .i64 xth, .bool xdn, .int .i64 xop.kind, .int .i64 xop.a, .int .i64 xop.b, .int .i64 xop.k, .int .i64 xop.v, .int .i64 xres.err, .int .i64 xres.id, .slice a1 xres.ps.length d1, .slice a2 xres.os.length d2, .slice a3 xres.is.length d3] 43)).drew
    have K1 := Lib.hid (hb.out.trans (KB.out.mono hwr))
    by_cases h1 : xth < 0
    · have he := err_bad hx (fun h => by have h3 : 0 ≤ xth := h.1; omega)
      clear hx
      go_wp2_with fail
      refine wp_region_schedK (fun _ => True) [(0, true), (1, true), (2, true), (3, true), (4, true), (5, true), (6, true), (7, true), (8, true), (9, true), (10, true), (11, true), (12, true), (13, false), (14, true), (15, true), (16, true), (17, true)] (by kernel_rfl) (by kernel_rfl) (fun hS => ?_)
      have HS := Lib.hid hS
      clear hS
      repeat (first | (refine sched_take (v := ?_) (by simp only [List.getElem?_toArray, List.getElem?_cons_succ, List.getElem?_cons_zero]; rfl) (Or.inl ⟨by rfl, fun W hW => ?_⟩) HS.out ?_; rotate_left; (have hc := fun b o hb => hW.cell b o trivial hb; clear hW; go_simp; with_reducible rfl); simp only [Act.put, List.setIfInBounds_toArray, List.set_cons_zero, List.set_cons_succ]) | (refine sched_take (by simp only [List.getElem?_toArray, List.getElem?_cons_succ, List.getElem?_cons_zero]; rfl) (Or.inr ⟨by rfl, rfl⟩) HS.out ?_; simp only [Act.put, List.setIfInBounds_toArray, List.set_cons_zero, List.set_cons_succ]))
      refine sched_step (by simp only [List.getElem?_toArray, List.getElem?_cons_succ, List.getElem?_cons_zero]; rfl) ?_
      go_wp2_with fail
      refine sched_on HS.out ?_
      repeat (first | (refine sched_take (v := ?_) (by simp only [List.getElem?_toArray, List.getElem?_cons_succ, List.getElem?_cons_zero]; rfl) (Or.inl ⟨by rfl, fun W hW => ?_⟩) HS.out ?_; rotate_left; (have hc := fun b o hb => hW.cell b o trivial hb; clear hW; go_simp; with_reducible rfl); simp only [Act.put, List.setIfInBounds_toArray, List.set_cons_zero, List.set_cons_succ]) | (refine sched_take (by simp only [List.getElem?_toArray, List.getElem?_cons_succ, List.getElem?_cons_zero]; rfl) (Or.inr ⟨by rfl, rfl⟩) HS.out ?_; simp only [Act.put, List.setIfInBounds_toArray, List.set_cons_zero, List.set_cons_succ]))
      refine sched_done ?_
      go_wp2
      go_ret
      exact ⟨by rw [he]; rfl, K1.out⟩
    by_cases h2 : 63 < xth
    · have he := err_bad hx (fun h => by have h3 : xth ≤ 63 := h.2.1; omega)
      clear hx
      go_wp2_with fail
      refine wp_region_schedK (fun _ => True) [(0, true), (1, true), (2, true), (3, true), (4, true), (5, true), (6, true), (7, true), (8, true), (9, true), (10, true), (11, true), (12, true), (13, false), (14, true), (15, true), (16, true), (17, true)] (by kernel_rfl) (by kernel_rfl) (fun hS => ?_)
      have HS := Lib.hid hS
      have hd1 : decide (xth < 0) = false := decide_eq_false (by omega)
      clear hS
      repeat (first | (refine sched_take (v := ?_) (by simp only [List.getElem?_toArray, List.getElem?_cons_succ, List.getElem?_cons_zero]; rfl) (Or.inl ⟨by rfl, fun W hW => ?_⟩) HS.out ?_; rotate_left; (have hc := fun b o hb => hW.cell b o trivial hb; clear hW; go_simp; with_reducible rfl); simp only [Act.put, List.setIfInBounds_toArray, List.set_cons_zero, List.set_cons_succ]) | (refine sched_take (by simp only [List.getElem?_toArray, List.getElem?_cons_succ, List.getElem?_cons_zero]; rfl) (Or.inr ⟨by rfl, rfl⟩) HS.out ?_; simp only [Act.put, List.setIfInBounds_toArray, List.set_cons_zero, List.set_cons_succ]))
      refine sched_step (by simp only [List.getElem?_toArray, List.getElem?_cons_succ, List.getElem?_cons_zero]; rfl) ?_
      go_wp2_with fail
      refine sched_on HS.out ?_
      repeat (first | (refine sched_take (v := ?_) (by simp only [List.getElem?_toArray, List.getElem?_cons_succ, List.getElem?_cons_zero]; rfl) (Or.inl ⟨by rfl, fun W hW => ?_⟩) HS.out ?_; rotate_left; (have hc := fun b o hb => hW.cell b o trivial hb; clear hW; go_simp; with_reducible rfl); simp only [Act.put, List.setIfInBounds_toArray, List.set_cons_zero, List.set_cons_succ]) | (refine sched_take (by simp only [List.getElem?_toArray, List.getElem?_cons_succ, List.getElem?_cons_zero]; rfl) (Or.inr ⟨by rfl, rfl⟩) HS.out ?_; simp only [Act.put, List.setIfInBounds_toArray, List.set_cons_zero, List.set_cons_succ]))
      refine sched_done ?_
      go_wp2
      go_ret
      exact ⟨by rw [he]; rfl, K1.out⟩
    clear hx
    go_wp2_with fail
    refine wp_region_schedK (fun _ => True) [(0, true), (1, true), (2, true), (3, true), (4, true), (5, true), (6, true), (7, true), (8, true), (9, true), (10, true), (11, true), (12, true), (13, false), (14, true), (15, true), (16, true), (17, true)] (by kernel_rfl) (by kernel_rfl) (fun hS => ?_)
    have HS := Lib.hid hS
    have hd1 : decide (xth < 0) = false := decide_eq_false (by omega)
    have hd2 : decide (63 < xth) = false := decide_eq_false (by omega)
    clear hS
    repeat (first | (refine sched_take (v := ?_) (by simp only [List.getElem?_toArray, List.getElem?_cons_succ, List.getElem?_cons_zero]; rfl) (Or.inl ⟨by rfl, fun W hW => ?_⟩) HS.out ?_; rotate_left; (have hc := fun b o hb => hW.cell b o trivial hb; clear hW; go_simp; with_reducible rfl); simp only [Act.put, List.setIfInBounds_toArray, List.set_cons_zero, List.set_cons_succ]) | (refine sched_take (by simp only [List.getElem?_toArray, List.getElem?_cons_succ, List.getElem?_cons_zero]; rfl) (Or.inr ⟨by rfl, rfl⟩) HS.out ?_; simp only [Act.put, List.setIfInBounds_toArray, List.set_cons_zero, List.set_cons_succ]))
    refine sched_step (by simp only [List.getElem?_toArray, List.getElem?_cons_succ, List.getElem?_cons_zero]; rfl) ?_
    have HRk := Lib.hid ((H.out.below hb.out).below KB.out)
    go_wp2_with fail
    refine (nth_calls _ _ _ l HRk.out hlen HX.out).mono ?_
    rintro e w1 ⟨rfl, hb1⟩
    have HS2 := Lib.hid (HS.out.below hb1)
    have K2 := Lib.hid (K1.out.trans (hb1.mono K1.out.size))
    have hc1 := (bcell hb1).1
    have s1 := hb1.size
    have HS1 := Lib.hid ((HS1.out.below KB.out).below hb1)
    have HR1 := Lib.hid (HRk.out.below hb1)
    clear hb1
    simp only [World.size_alloc, World.size_drew] at s1 hc1
    have g5 : wa.heap.size < w1.heap.size := by omega
    go_wp2_with fail
    refine sched_on HS2.out ?_
    have hpar : ∀ p : Bool, decide (cntT (l.take k) xth % 2 = 1) = p → Int.tmod (cntT (l.take k) xth : Int) 2 = if p then 1 else 0 := by
      intro p hp
      rw [show (2 : Int) = ((2 : Nat) : Int) from rfl, ← Int.ofNat_tmod]
      cases p
      · have := of_decide_eq_false hp
        simp only [Bool.false_eq_true, if_false]
        omega
      · have := of_decide_eq_true hp
        simp only [if_true]
        omega
    have hcl : cntT (l.take k) xth ≤ k := by
      unfold cntT
      have h1 := List.length_filter_le (fun y : EvD => decide (y.th = xth)) (l.take k)
      rw [List.length_take] at h1
      omega
    cases hp : decide (cntT (l.take k) xth % 2 = 1) with
    | true =>
      have hrm : Int.tmod (cntT (l.take k) xth : Int) 2 = 1 := hpar _ hp
      have HP := Lib.hid hp
      clear hpar hp
      cases xdn
      · have he := err_bad HX.out (fun h => by have h1 := h.2.2.1; simp only at h1; rw [HP.out] at h1; cases h1)
        repeat (first | (refine sched_take (v := ?_) (by simp only [List.getElem?_toArray, List.getElem?_cons_succ, List.getElem?_cons_zero]; rfl) (Or.inl ⟨by rfl, fun W hW => ?_⟩) HS2.out ?_; rotate_left; (have hc := fun b o hb => hW.cell b o trivial hb; clear hW; go_simp; with_reducible rfl); simp only [Act.put, List.setIfInBounds_toArray, List.set_cons_zero, List.set_cons_succ]) | (refine sched_take (by simp only [List.getElem?_toArray, List.getElem?_cons_succ, List.getElem?_cons_zero]; rfl) (Or.inr ⟨by rfl, rfl⟩) HS2.out ?_; simp only [Act.put, List.setIfInBounds_toArray, List.set_cons_zero, List.set_cons_succ]))
        refine sched_done ?_
        go_wp2
        go_ret
        exact ⟨by rw [he]; rfl, K2.out⟩
      · repeat (first | (refine sched_take (v := ?_) (by simp only [List.getElem?_toArray, List.getElem?_cons_succ, List.getElem?_cons_zero]; rfl) (Or.inl ⟨by rfl, fun W hW => ?_⟩) HS2.out ?_; rotate_left; (have hc := fun b o hb => hW.cell b o trivial hb; clear hW; go_simp; with_reducible rfl); simp only [Act.put, List.setIfInBounds_toArray, List.set_cons_zero, List.set_cons_succ]) | (refine sched_take (by simp only [List.getElem?_toArray, List.getElem?_cons_succ, List.getElem?_cons_zero]; rfl) (Or.inr ⟨by rfl, rfl⟩) HS2.out ?_; simp only [Act.put, List.setIfInBounds_toArray, List.set_cons_zero, List.set_cons_succ]))
        refine sched_done ?_
        go_wp2_with fail
        refine (next_calls _ _ _ l HR1.out hlen HX.out).mono ?_
        rintro e w2 ⟨r, rfl, hn, hb2⟩
        have K3 := Lib.hid (K2.out.trans (hb2.mono K2.out.size))
        have hc2 := (bcell hb2).1
        have g6 : wa.heap.size < w2.heap.size := by have := hb2.size; omega
        clear hn hb2
        go_wp2_with fail
        refine wp_region_schedK (fun _ => True) [(0, true), (1, true), (2, true), (3, true), (4, true), (5, true), (6, true), (7, true), (8, true), (9, true), (10, true), (11, true), (12, true), (13, true), (14, true), (15, true), (16, true)] (by kernel_rfl) (by kernel_rfl) (fun hS => ?_)
        have HS3 := Lib.hid hS
        clear hS
        repeat (first | (refine sched_take (v := ?_) (by simp only [List.getElem?_toArray, List.getElem?_cons_succ, List.getElem?_cons_zero]; rfl) (Or.inl ⟨by rfl, fun W hW => ?_⟩) HS3.out ?_; rotate_left; (have hc := fun b o hb => hW.cell b o trivial hb; clear hW; go_simp; with_reducible rfl); simp only [Act.put, List.setIfInBounds_toArray, List.set_cons_zero, List.set_cons_succ]) | (refine sched_take (by simp only [List.getElem?_toArray, List.getElem?_cons_succ, List.getElem?_cons_zero]; rfl) (Or.inr ⟨by rfl, rfl⟩) HS3.out ?_; simp only [Act.put, List.setIfInBounds_toArray, List.set_cons_zero, List.set_cons_succ]))
        refine sched_done ?_
        have hra := Lib.hid (show ∀ (i : Nat) (x : EvD), i < k + 1 → l[i]? = some x → RefAt l i x from fun i z hi hz => by
          rcases Nat.lt_or_ge i k with h3 | h3
          · exact hall.out i z h3 hz
          · obtain rfl : i = k := by omega
            rw [HX.out] at hz
            injection hz with hz
            subst hz
            exact ⟨by simp only; omega, by simp only; omega, HP.out.symm, fun e => (by cases e), fun e => (by cases e)⟩)
        go_wp2
        go_roundw
        case rel => exact ⟨k + 1, by omega, by first | (go_num; done) | (go_num; omega), hra, Lib.hid K3.out.drew⟩
        case measure => simp [intOf]; omega
    | false =>
      have hrm : Int.tmod (cntT (l.take k) xth : Int) 2 = 0 := hpar _ hp
      have HP := Lib.hid hp
      clear hpar hp
      cases xdn
      case true =>
        have he := err_bad HX.out (fun h => by have h1 := h.2.2.1; simp only at h1; rw [HP.out] at h1; cases h1)
        repeat (first | (refine sched_take (v := ?_) (by simp only [List.getElem?_toArray, List.getElem?_cons_succ, List.getElem?_cons_zero]; rfl) (Or.inl ⟨by rfl, fun W hW => ?_⟩) HS2.out ?_; rotate_left; (have hc := fun b o hb => hW.cell b o trivial hb; clear hW; go_simp; with_reducible rfl); simp only [Act.put, List.setIfInBounds_toArray, List.set_cons_zero, List.set_cons_succ]) | (refine sched_take (by simp only [List.getElem?_toArray, List.getElem?_cons_succ, List.getElem?_cons_zero]; rfl) (Or.inr ⟨by rfl, rfl⟩) HS2.out ?_; simp only [Act.put, List.setIfInBounds_toArray, List.set_cons_zero, List.set_cons_succ]))
        refine sched_done ?_
        go_wp2
        go_ret
        exact ⟨by rw [he]; rfl, K2.out⟩
      repeat (first | (refine sched_take (v := ?_) (by simp only [List.getElem?_toArray, List.getElem?_cons_succ, List.getElem?_cons_zero]; rfl) (Or.inl ⟨by rfl, fun W hW => ?_⟩) HS2.out ?_; rotate_left; (have hc := fun b o hb => hW.cell b o trivial hb; clear hW; go_simp; with_reducible rfl); simp only [Act.put, List.setIfInBounds_toArray, List.set_cons_zero, List.set_cons_succ]) | (refine sched_take (by simp only [List.getElem?_toArray, List.getElem?_cons_succ, List.getElem?_cons_zero]; rfl) (Or.inr ⟨by rfl, rfl⟩) HS2.out ?_; simp only [Act.put, List.setIfInBounds_toArray, List.set_cons_zero, List.set_cons_succ]))
      refine sched_done ?_
      go_wp2_with fail
      refine (refSame_calls _ (fun _ => True) xres ResD.zero _ _ _ _ _ _ (HS1.out.mono fun _ _ _ => trivial) (Sl.nil _ _)).mono ?_
      rintro e w3 ⟨rfl, hb3⟩
      have K3 := Lib.hid (K2.out.trans (hb3.mono K2.out.size))
      have hc3 := (bcell hb3).1
      have s3 := hb3.size
      have HR3 := Lib.hid (HR1.out.below hb3)
      have g6 : wa.heap.size < w3.heap.size := by omega
      clear hb3
      by_cases hz : xres = ResD.zero
      case neg =>
        have he := err_bad HX.out (fun h => hz (h.2.2.2.1 rfl))
        rw [decide_eq_false hz]
        go_wp2
        go_ret
        exact ⟨by rw [he]; rfl, K3.out⟩
      rw [decide_eq_true hz]
      have HZ := Lib.hid hz
      clear hz
      go_wp2_with fail
      refine (next_calls _ _ _ l HR3.out hlen HX.out).mono ?_
      rintro e w4 ⟨r, rfl, hn, hb4⟩
      have HN := Lib.hid hn
      have K4 := Lib.hid (K3.out.trans (hb4.mono K3.out.size))
      have hc4 := (bcell hb4).1
      have g7 : wa.heap.size < w4.heap.size := by have := hb4.size; omega
      have HR4 := Lib.hid (HR3.out.below hb4)
      clear hb4
      rcases hn with ⟨rfl, hn1⟩ | ⟨m, y, rfl, hn1, hn2, hn3, hn4⟩
      · clear hn1
        have hra := Lib.hid (show ∀ (i : Nat) (x : EvD), i < k + 1 → l[i]? = some x → RefAt l i x from fun i z hi hz => by
          rcases Nat.lt_or_ge i k with h3 | h3
          · exact hall.out i z h3 hz
          · obtain rfl : i = k := by omega
            rw [HX.out] at hz
            injection hz with hz
            subst hz
            exact ⟨by simp only; omega, by simp only; omega, HP.out.symm, fun _ => HZ.out, fun _ k' y' hk' _ => by have := HN.out.uniq hk'; omega⟩)
        go_wp2_with fail
        refine wp_region_schedK (fun _ => True) [(0, true), (1, true), (2, true), (3, true), (4, true), (5, true), (6, true), (7, true), (8, true), (9, true), (10, true), (11, true), (12, true), (13, true), (14, true), (15, true), (16, true)] (by kernel_rfl) (by kernel_rfl) (fun hS => ?_)
        have HS3 := Lib.hid hS
        clear hS
        repeat (first | (refine sched_take (v := ?_) (by simp only [List.getElem?_toArray, List.getElem?_cons_succ, List.getElem?_cons_zero]; rfl) (Or.inl ⟨by rfl, fun W hW => ?_⟩) HS3.out ?_; rotate_left; (have hc := fun b o hb => hW.cell b o trivial hb; clear hW; go_simp; with_reducible rfl); simp only [Act.put, List.setIfInBounds_toArray, List.set_cons_zero, List.set_cons_succ]) | (refine sched_take (by simp only [List.getElem?_toArray, List.getElem?_cons_succ, List.getElem?_cons_zero]; rfl) (Or.inr ⟨by rfl, rfl⟩) HS3.out ?_; simp only [Act.put, List.setIfInBounds_toArray, List.set_cons_zero, List.set_cons_succ]))
        refine sched_done ?_
        go_wp2
        go_roundw
        case rel => exact ⟨k + 1, by omega, by first | (go_num; done) | (go_num; omega), hra, Lib.hid K4.out.drew⟩
        case measure => simp [intOf]; omega
      · have hm : m < l.length := (List.getElem?_eq_some_iff.1 hn2).1
        obtain ⟨b', off', _, _, _, _, _, _, hA, hbl', _, y0, y1, y2, y3, y4, y5, y6, _⟩ := HR4.out.atEvF hn2
        injection hA with hA
        injection hA with h1 h2
        subst h1 h2
        have HY := Lib.hid hn2
        clear hn1 hn2 hn3 hn4 x0 x1 x2 x3 x4 x5 x6 x7 x8 x9 x10 x11
        go_wp2_with fail
        refine wp_region_schedK (fun _ => True) [(0, true), (1, true), (2, true), (3, true), (4, true), (5, true), (6, true), (7, true), (8, true), (9, true), (10, true), (11, true), (12, true), (13, true), (14, true), (15, true), (16, true)] (by kernel_rfl) (by kernel_rfl) (fun hS => ?_)
        have HS3 := Lib.hid hS
        clear hS
        by_cases hop : y.op = xop
        · have hra := Lib.hid (show ∀ (i : Nat) (x : EvD), i < k + 1 → l[i]? = some x → RefAt l i x from fun i z hi hz => by
            rcases Nat.lt_or_ge i k with h3 | h3
            · exact hall.out i z h3 hz
            · obtain rfl : i = k := by omega
              rw [HX.out] at hz
              injection hz with hz
              subst hz
              exact ⟨by simp only; omega, by simp only; omega, HP.out.symm, fun _ => HZ.out, fun _ k' y' hk' hy' => by
                have e := HN.out.uniq hk'
                obtain rfl : m = k' := by omega
                rw [HY.out] at hy'
                injection hy' with hy'
                subst hy'
                exact hop⟩)
          rw [hop] at y2 y3 y4 y5 y6
          repeat (first | (refine sched_take (v := ?_) (by simp only [List.getElem?_toArray, List.getElem?_cons_succ, List.getElem?_cons_zero]; rfl) (Or.inl ⟨by rfl, fun W hW => ?_⟩) HS3.out ?_; rotate_left; (have hc := fun b o hb => hW.cell b o trivial hb; clear hW; go_simp; with_reducible rfl); simp only [Act.put, List.setIfInBounds_toArray, List.set_cons_zero, List.set_cons_succ]) | (refine sched_take (by simp only [List.getElem?_toArray, List.getElem?_cons_succ, List.getElem?_cons_zero]; rfl) (Or.inr ⟨by rfl, rfl⟩) HS3.out ?_; simp only [Act.put, List.setIfInBounds_toArray, List.set_cons_zero, List.set_cons_succ]))
          refine sched_done ?_
          go_wp2
          go_roundw
          case rel => exact ⟨k + 1, by omega, by first | (go_num; done) | (go_num; omega), hra, Lib.hid K4.out.drew⟩
          case measure => simp [intOf]; omega
        · have he := err_bad HX.out (fun h => hop (h.2.2.2.2 rfl m y HN.out HY.out))
          repeat (first | (refine sched_take (v := ?_) (by simp only [List.getElem?_toArray, List.getElem?_cons_succ, List.getElem?_cons_zero]; rfl) (Or.inl ⟨by rfl, fun W hW => ?_⟩) HS3.out ?_; rotate_left; (have hc := fun b o hb => hW.cell b o trivial hb; clear hW; go_simp; with_reducible rfl); simp only [Act.put, List.setIfInBounds_toArray, List.set_cons_zero, List.set_cons_succ]) | (refine sched_take (by simp only [List.getElem?_toArray, List.getElem?_cons_succ, List.getElem?_cons_zero]; rfl) (Or.inr ⟨by rfl, rfl⟩) HS3.out ?_; simp only [Act.put, List.setIfInBounds_toArray, List.set_cons_zero, List.set_cons_succ]))
          refine sched_take (v := .bool (!decide (y.op = xop))) (by simp only [List.getElem?_toArray, List.getElem?_cons_succ, List.getElem?_cons_zero]; rfl) (Or.inl ⟨by rfl, fun W _ => exec_neqOp W y.op xop rfl rfl rfl⟩) HS3.out ?_
          simp only [Act.put, List.setIfInBounds_toArray, List.set_cons_zero, List.set_cons_succ]
          rw [decide_eq_false hop]
          simp only [Bool.not_false]
          repeat (first | (refine sched_take (v := ?_) (by simp only [List.getElem?_toArray, List.getElem?_cons_succ, List.getElem?_cons_zero]; rfl) (Or.inl ⟨by rfl, fun W hW => ?_⟩) HS3.out ?_; rotate_left; (have hc := fun b o hb => hW.cell b o trivial hb; clear hW; go_simp; with_reducible rfl); simp only [Act.put, List.setIfInBounds_toArray, List.set_cons_zero, List.set_cons_succ]) | (refine sched_take (by simp only [List.getElem?_toArray, List.getElem?_cons_succ, List.getElem?_cons_zero]; rfl) (Or.inr ⟨by rfl, rfl⟩) HS3.out ?_; simp only [Act.put, List.setIfInBounds_toArray, List.set_cons_zero, List.set_cons_succ]))
          refine sched_done ?_
          go_wp2
          go_ret
          exact ⟨by rw [he]; rfl, K4.out.drew⟩
end Go.Proofs.Ytgpmkcipogljbaa
