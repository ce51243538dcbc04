/- HistThreads: of two calls of one thread the first one is before the other one. -/
import Derived.Test.YtgpmkcipogljbaaHistOrderW
import Derived.Test.YtgpmkcipogljbaaInv
namespace Go.Proofs.Ytgpmkcipogljbaa
open Go.RowKit
set_option linter.unusedSimpArgs false
set_option linter.unusedVariables false
set_option maxRecDepth 100000 in
set_option maxHeartbeats 2000000 in
theorem check_calls (w : World) (S : Nat → Prop) (v : Value) (l : List EvD) (h : Row tEv w S v l) (hlen : l.length ≤ 1000000) (hfew : ∀ x ∈ l, x.res.few) (hok : ∀ x ∈ l, okI x.th) : Calls Try.prog 14 #[v] w fun e w' => e = .returned (.int .i64 (errOf (runL l))) ∧ Below w.heap.size w w' := by
  obtain ⟨A, c, rfl⟩ := h.slice
  have H := Lib.hid h
  have HF := Lib.hid hfew
  have HO := Lib.hid hok
  clear h hfew hok
  go_enter Try.func14, Try.ntmps14
  go_wp2_with fail
  refine (calls_calls _ _ _ _ H.out hlen HF.out HO.out).mono ?_
  rintro e w3 ⟨v3, rfl, ho3, hb3⟩
  obtain ⟨A3, c3, rfl⟩ := ho3.slice
  have HB := Lib.hid hb3
  clear ho3 hb3
  go_wp2
  go_ret
  exact ⟨rfl, HB.out⟩
theorem before_of {x y : CallD} (h : 0 ≤ x.to ∧ x.to < y.frm) : beforeB x y = true := by simp [beforeB, h.1, h.2]
theorem before_not {x y : CallD} (h1 : x.frm < y.frm) (h2 : 0 ≤ y.to → y.frm < y.to) : beforeB y x = false := by
  unfold beforeB
  by_cases h : 0 ≤ y.to
  · have := h2 h; simp [h]; omega
  · simp [h]
set_option maxRecDepth 100000 in
set_option maxHeartbeats 8000000 in
theorem histThreads_walk (w : World) (v : Value) (l : List EvD) (hr : Row tEv w (fun _ => True) v l) (okl : ∀ x ∈ l, okI x.th) : Calls Try.prog 5 #[v] w fun e w' => e = .returned (.bool true) ∧ Below w.heap.size w w' := by
  obtain ⟨A, c, rfl⟩ := hr.slice
  have HR := Lib.hid hr
  have OK := Lib.hid okl
  clear hr okl
  go_enter Try.func5, Try.ntmps5
  go_wp2_with fail
  refine (live_calls _).mono ?_
  rintro e w1 ⟨rfl, hb1⟩
  have K1 := Lib.hid hb1
  clear hb1
  have s1 := K1.out.size
  have HR1 := Lib.hid (HR.out.below K1.out)
  go_wp2_with fail
  refine (few_calls _ _ _ _ _ HR1.out).mono ?_
  rintro e w2 ⟨rfl, hb2⟩
  have K2 := Lib.hid (K1.out.trans (hb2.mono s1))
  clear hb2
  have s2 := K2.out.size
  have HR2 := Lib.hid (HR.out.below K2.out)
  cases hfew : fewOf l 100
  · clear hfew
    go_wp2
    go_ret
    exact ⟨rfl, K2.out⟩
  have HF := Lib.hid (small_few hfew)
  clear hfew
  go_wp2_with fail
  refine (calls_calls _ _ _ _ HR2.out (by have := HF.out.2; omega) HF.out.1 OK.out).mono ?_
  rintro e w3 ⟨v3, rfl, ho3, hb3⟩
  have K3 := Lib.hid (K2.out.trans (hb3.mono s2))
  clear hb3
  have s3 := K3.out.size
  have HS := Lib.hid (out_sound l)
  cases hrun : runL l with
  | none =>
    have HN := Lib.hid hrun
    obtain ⟨A3, c3, rfl⟩ := ho3.slice
    have e0 : (outOf (runL l)).length = 0 := by rw [hrun]; rfl
    rw [e0]
    clear hrun ho3 e0
    simp only [errOf]
    have HR3 := Lib.hid (HR.out.below K3.out)
    go_wp2_with fail
    refine (check_calls _ _ _ _ HR3.out (by have := HF.out.2; omega) HF.out.1 OK.out).mono ?_
    rintro e w4 ⟨rfl, hb4⟩
    have K4 := Lib.hid (K3.out.trans (hb4.mono s3))
    clear hb4
    rw [HN.out]
    simp only [errOf]
    go_wp2
    go_ret
    exact ⟨rfl, K4.out⟩
  | some st =>
    have HI := Lib.hid (runL_inv hrun)
    rw [hrun] at ho3
    clear hrun
    simp only [errOf]
    simp only [outOf] at ho3
    have each := Lib.hid HI.out.each
    have asc := Lib.hid HI.out.asc
    have same := Lib.hid HI.out.same
    clear HI HS
    generalize st.out = xs at ho3 each asc same
    have hm := ho3.len
    unfold maxLen at hm
    obtain ⟨A3, c3, rfl⟩ := ho3.slice
    obtain ⟨_, hcap, hcap2, _⟩ := ho3.n_eq
    unfold maxLen at hcap2
    have HX := Lib.hid ho3
    clear ho3
    go_wp2
    go_loopw [32] (fun i wr => ∃ k : Nat, k ≤ xs.length ∧ i = .int .i64 (k : Int) ∧ Hid (Below w3.heap.size w3 wr)) (fun i _ => xs.length - (intOf i).toNat)
    case atStart => exact ⟨0, Nat.zero_le _, rfl, Below.refl _ _⟩
    case round =>
      obtain ⟨wa, rfl⟩ : ∃ wa, wa = wr := ⟨wr, rfl⟩
      obtain ⟨k, hk, rfl, hb⟩ := hrel
      have hwr := hb.out.size
      by_cases hlt : k < xs.length
      case neg =>
        go_wp2
        go_ret
        exact ⟨rfl, K3.out.trans (hb.out.mono s3)⟩
      obtain ⟨x, hx⟩ := getElem?_of_lt hlt
      have HXX := Lib.hid hx
      obtain ⟨b, off, a1, d1, a2, d2, a3, d3, rfl, hbl, _, x0, x1, x2, x3, x4, x5, x6, x7, x8, x9, x10, x11, x12⟩ := (HX.out.below hb.out).atCallF hx
      clear hx
      have hr : Row tCall wa (fun k => w2.heap.size ≤ k) (.slice (some ⟨b, off + (k + 1) * 13, none⟩) (xs.length - (k + 1)) (c3 - (k + 1))) (xs.drop (k + 1)) := by
        have h1 := (HX.out.below hb.out).sub (i := k + 1) (m := xs.length - (k + 1)) (c' := c3 - (k + 1)) (by omega) (by omega) (by unfold maxLen; omega)
        have e : (xs.drop (k + 1)).take (xs.length - (k + 1)) = xs.drop (k + 1) := List.take_of_length_le (by simp)
        rwa [e] at h1
      have HRR := Lib.hid hr
      clear hr
      by_cases hlast : k + 1 < xs.length
      case neg =>
        have e0 : xs.length - (k + 1) = 0 := by omega
        by_cases hcc : k + 1 < c3
        · skip
          go_wp2
          go_loopw [42] (fun i wp => i = .int .i64 0 ∧ Hid (Below wa.heap.size wa wp)) (fun _ _ => 0)
          case atStart => exact ⟨rfl, Below.heap1 wa _⟩
          case round =>
            obtain ⟨rfl, hbw⟩ := hrel
            go_wp2
            go_roundw
            case rel => exact ⟨k + 1, by omega, by first | (go_num; done) | (go_num; omega), Lib.hid (hb.out.trans (hbw.out.mono hwr))⟩
            case measure => simp [intOf]; omega
        · have e9 : k + 1 = xs.length := by omega
          obtain rfl : c3 = k + 1 := by omega
          clear hcc
          go_wp2
          go_loopw [42] (fun i wp => i = .int .i64 0 ∧ Hid (Below wa.heap.size wa wp)) (fun _ _ => 0)
          case atStart => exact ⟨rfl, Below.heap1 wa _⟩
          case round =>
            obtain ⟨rfl, hbw⟩ := hrel
            go_wp2
            go_roundw
            case rel => exact ⟨k + 1, by omega, by first | (go_num; done) | (go_num; omega), Lib.hid (hb.out.trans (hbw.out.mono hwr))⟩
            case measure => simp [intOf]; omega
      have hcc : k + 1 < c3 := by omega
      go_wp2
      clear x0 x1 x2 x3 x4 x5 x6 x7 x8 x9 x10 x11 x12
      go_loopw [42] (fun i wp => ∃ k2 : Nat, k2 ≤ xs.length - (k + 1) ∧ i = .int .i64 (k2 : Int) ∧ Hid (Below (wa.alloc (.cells #[.int .i64 x.th, .int .i64 x.op.kind, .int .i64 x.op.a, .int .i64 x.op.b, .int .i64 x.op.k, .int .i64 x.op.v, .int .i64 x.frm, .int .i64 x.to, .int .i64 x.res.err, .int .i64 x.res.id, .slice a1 x.res.ps.length d1, .slice a2 x.res.os.length d2, .slice a3 x.res.is.length d3] 36)).heap.size (wa.alloc (.cells #[.int .i64 x.th, .int .i64 x.op.kind, .int .i64 x.op.a, .int .i64 x.op.b, .int .i64 x.op.k, .int .i64 x.op.v, .int .i64 x.frm, .int .i64 x.to, .int .i64 x.res.err, .int .i64 x.res.id, .slice a1 x.res.ps.length d1, .slice a2 x.res.os.length d2, .slice a3 x.res.is.length d3] 36)) wp)) (fun i _ => xs.length - (k + 1) - (intOf i).toNat)
      case atStart => exact ⟨0, Nat.zero_le _, rfl, Below.refl _ _⟩
      case round =>
        obtain ⟨wq, rfl⟩ : ∃ wq, wq = wr := ⟨wr, rfl⟩
        obtain ⟨k2, hk2, rfl, hb2⟩ := hrel
        have hwq := hb2.out.size
        have KA := Lib.hid ((Below.heap1 wa (.cells #[.int .i64 x.th, .int .i64 x.op.kind, .int .i64 x.op.a, .int .i64 x.op.b, .int .i64 x.op.k, .int .i64 x.op.v, .int .i64 x.frm, .int .i64 x.to, .int .i64 x.res.err, .int .i64 x.res.id, .slice a1 x.res.ps.length d1, .slice a2 x.res.os.length d2, .slice a3 x.res.is.length d3] 36)).trans (hb2.out.mono (by simp)))
        have K5 := Lib.hid (hb.out.trans (KA.out.mono hwr))
        by_cases hlt2 : k2 < xs.length - (k + 1)
        case neg =>
          go_wp2
          go_roundw
          case rel => exact ⟨k + 1, by omega, by first | (go_num; done) | (go_num; omega), K5⟩
          case measure => simp [intOf]; omega
        obtain ⟨y, hy⟩ := getElem?_of_lt (show k2 < (xs.drop (k + 1)).length by simp; omega)
        have hy' : xs[k + 1 + k2]? = some y := by rwa [List.getElem?_drop] at hy
        have n1 := asc.out k (k + 1 + k2) x y (by omega) HXX.out hy'
        have NB := Lib.hid (before_not n1 (each.out _ _ hy').2.2.2)
        have SM := Lib.hid (fun e => same.out k (k + 1 + k2) x y (by omega) HXX.out hy' e)
        obtain ⟨b', off', a1', d1', a2', d2', a3', d3', hA, _, _, y0, y1, y2, y3, y4, y5, y6, y7, y8, y9, y10, y11, y12⟩ := (HRR.out.below KA.out).atCallF hy
        injection hA with hA
        injection hA with e1 e2
        subst e1 e2
        clear hy hy'
        have hc2 := (bcell hb2.out).1
        simp only [World.size_alloc] at hwq hc2
        have g1 : wa.heap.size < wa.heap.size + 1 := by omega
        have g2 : wa.heap.size < wq.heap.size := by omega
        have g3 : wa.heap.size < wq.heap.size + 1 := by omega
        have g4 : wq.heap.size < wq.heap.size + 1 := by omega
        by_cases hth : x.th = y.th
        · obtain ⟨t1, t2⟩ := SM.out hth
          have HB := Lib.hid (before_of ⟨t1, t2⟩)
          replace hth : (x.th == y.th) = true := beq_iff_eq.mpr hth
          go_wp2_with fail
          refine (before_calls _ x y _ _ _ _ _ _).mono ?_
          rintro e w5 ⟨rfl, hb5⟩
          rw [HB.out]
          have hc5 := (bcell hb5).1
          have hs5 := hb5.size
          have L5 := Lib.hid ((hb2.out.alloc (by simp; omega) (.cells #[.int .i64 y.th, .int .i64 y.op.kind, .int .i64 y.op.a, .int .i64 y.op.b, .int .i64 y.op.k, .int .i64 y.op.v, .int .i64 y.frm, .int .i64 y.to, .int .i64 y.res.err, .int .i64 y.res.id, .slice a1' y.res.ps.length d1', .slice a2' y.res.os.length d2', .slice a3' y.res.is.length d3'] 36)).trans (hb5.mono (by simp; omega)))
          clear hb5
          simp only [World.size_alloc] at hs5 hc5
          have g5 : wa.heap.size < w5.heap.size := by omega
          have g6 : wq.heap.size < w5.heap.size := by omega
          have l5 := L5.out.size
          go_wp2_with fail
          refine (before_calls _ y x _ _ _ _ _ _).mono ?_
          rintro e w6 ⟨rfl, hb6⟩
          rw [NB.out]
          have L6 := Lib.hid (L5.out.trans (hb6.mono l5))
          clear hb6
          go_wp2
          go_roundw
          case rel => exact ⟨k2 + 1, by omega, by first | (go_num; done) | (go_num; omega), L6⟩
          case measure => simp [intOf]; omega
        · replace hth : (x.th == y.th) = false := beq_eq_false_iff_ne.mpr hth
          go_wp2_with fail
          refine (before_calls _ y x _ _ _ _ _ _).mono ?_
          rintro e w6 ⟨rfl, hb6⟩
          rw [NB.out]
          have L6 := Lib.hid ((hb2.out.alloc (by simp; omega) (.cells #[.int .i64 y.th, .int .i64 y.op.kind, .int .i64 y.op.a, .int .i64 y.op.b, .int .i64 y.op.k, .int .i64 y.op.v, .int .i64 y.frm, .int .i64 y.to, .int .i64 y.res.err, .int .i64 y.res.id, .slice a1' y.res.ps.length d1', .slice a2' y.res.os.length d2', .slice a3' y.res.is.length d3'] 36)).trans (hb6.mono (by simp; omega)))
          clear hb6
          go_wp2
          go_roundw
          case rel => exact ⟨k2 + 1, by omega, by first | (go_num; done) | (go_num; omega), L6⟩
          case measure => simp [intOf]; omega
end Go.Proofs.Ytgpmkcipogljbaa
