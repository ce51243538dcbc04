/- HistCuts: a history, cut off anywhere. -/
import Derived.Test.YtgpmkcipogljbaaHistThreadsW
import Derived.Test.YtgpmkcipogljbaaCut
import Derived.Test.YtgpmkcipogljbaaSameC
namespace Go.Proofs.Ytgpmkcipogljbaa
open Go.RowKit
set_option linter.unusedSimpArgs false
set_option linter.unusedVariables false
theorem Row.head {α : Type} {t : Ty α} {w : World} {S : Nat → Prop} {A : Option Addr} {n c : Nat} {xs : List α} (h : Row t w S (.slice A n c) xs) {k : Nat} (hk : k ≤ n) : Row t w S (.slice A k c) (xs.take k) := by
  obtain ⟨A', cc, hv, h1, h2, h3, h4⟩ := h
  injection hv with e1 e2 e3
  subst e1 e2 e3
  have hl : (xs.take k).length = k := by rw [List.length_take]; omega
  refine ⟨_, c, by rw [hl], by rw [hl]; omega, h2, h3, ?_⟩
  rcases h4 with rfl | ⟨b', off', he, hb, hlt, hel⟩
  · exact .inl (by simp)
  · refine .inr ⟨_, _, he, hb, hlt, fun j x hj => hel j x ?_⟩
    rw [List.getElem?_take] at hj
    split at hj
    · exact hj
    · cases hj
set_option maxRecDepth 100000 in
set_option maxHeartbeats 8000000 in
theorem histCuts_walk (w : World) (v : Value) (l : List EvD) (hr : Row tEv w (fun _ => True) v l) (okl : ∀ x ∈ l, okI x.th) (n : Int) (okn : okI n) : Calls Try.prog 6 #[v, .int .i64 n] w fun e w' => e = .returned (.bool true) ∧ Below w.heap.size w w' := by
  obtain ⟨A, c, rfl⟩ := hr.slice
  have HR := Lib.hid hr
  have OK := Lib.hid okl
  clear hr okl
  go_enter Try.func6, Try.ntmps6
  go_wp2_with fail
  refine (live_calls _).mono ?_
  rintro e w1 ⟨rfl, hb1⟩
  have K1 := Lib.hid hb1
  clear hb1
  have s1 := K1.out.size
  have HR1 := Lib.hid (HR.out.below K1.out)
  go_wp2_with fail
  refine (few_calls _ _ _ _ _ HR1.out).mono ?_
  rintro e w2 ⟨rfl, hb2⟩
  have K2 := Lib.hid (K1.out.trans (hb2.mono s1))
  clear hb2
  have s2 := K2.out.size
  have HR2 := Lib.hid (HR.out.below K2.out)
  cases hfew : fewOf l 100
  · clear hfew
    go_wp2
    go_ret
    exact ⟨rfl, K2.out⟩
  have HF := Lib.hid (small_few hfew)
  clear hfew
  by_cases n1 : n < 0
  · go_wp2
    go_ret
    exact ⟨rfl, K2.out⟩
  by_cases n2 : (l.length : Int) < n
  · go_wp2
    go_ret
    exact ⟨rfl, K2.out⟩
  obtain ⟨k, rfl⟩ : ∃ k : Nat, n = (k : Int) := ⟨n.toNat, by omega⟩
  have hk : k ≤ l.length := by omega
  have HL := Lib.hid (show l.length ≤ 1000000 by have := HF.out.2; omega)
  go_wp2_with fail
  refine (check_calls _ _ _ _ HR2.out HL.out HF.out.1 OK.out).mono ?_
  rintro e w3 ⟨rfl, hb3⟩
  have K3 := Lib.hid (K2.out.trans (hb3.mono s2))
  have s3 := K3.out.size
  clear hb3
  cases hrun : runL l with
  | none =>
    simp only [errOf]
    clear hrun
    go_wp2
    go_ret
    exact ⟨rfl, K3.out⟩
  | some t =>
    obtain ⟨st, hst, hlat⟩ := runL_cut hk hrun
    simp only [errOf]
    have HR3 := Lib.hid (HR.out.below K3.out)
    have HRUN := Lib.hid hrun
    have HST := Lib.hid hst
    have HLAT := Lib.hid hlat
    clear hrun hst hlat
    go_wp2_with fail
    refine (calls_calls _ _ _ _ HR3.out HL.out HF.out.1 OK.out).mono ?_
    rintro e w4 ⟨v4, rfl, ho4, hb4⟩
    rw [HRUN.out] at ho4 ⊢
    simp only [errOf, outOf] at ho4 ⊢
    obtain ⟨A4, c4, rfl⟩ := ho4.slice
    have X4 := Lib.hid ho4
    have K4 := Lib.hid (K3.out.trans (hb4.mono s3))
    have s4 := K4.out.size
    clear ho4 hb4
    obtain ⟨_, hcap, hcap2, _⟩ := HR.out.n_eq
    unfold maxLen at hcap2
    go_wp2_with fail
    have HRk := Lib.hid ((HR.out.below K4.out).head hk)
    have HLk := Lib.hid (show (l.take k).length ≤ 1000000 by have := HL.out; rw [List.length_take]; omega)
    refine (calls_calls _ _ _ (l.take k) HRk.out HLk.out (fun x hx => HF.out.1 x (List.mem_of_mem_take hx)) (fun x hx => OK.out x (List.mem_of_mem_take hx))).mono ?_
    rintro e w5 ⟨v5, rfl, ho5, hb5⟩
    rw [HST.out] at ho5 ⊢
    simp only [errOf, outOf] at ho5 ⊢
    obtain ⟨A5, c5, rfl⟩ := ho5.slice
    have X5 := Lib.hid ho5
    have X4 := Lib.hid (X4.out.below hb5)
    have K5 := Lib.hid (K4.out.trans (hb5.mono s4))
    have s5 := K5.out.size
    clear ho5 hb5
    have hm4 := X4.out.len
    unfold maxLen at hm4
    have l1 := HLAT.out.len
    have L2 := Lib.hid HLAT.out.old
    have L3 := Lib.hid HLAT.out.new
    clear HLAT HST HRUN
    generalize st.out = ys at *
    generalize t.out = xs at *
    have hdec : decide (xs.length < ys.length) = false := decide_eq_false (by omega)
    go_wp2
    try simp only [hdec]
    clear hdec
    go_loopw [59] (fun i wr => ∃ j : Nat, j ≤ ys.length ∧ i = .int .i64 (j : Int) ∧ Hid (Below w5.heap.size w5 wr)) (fun i _ => ys.length - (intOf i).toNat)
    case atStart => exact ⟨0, Nat.zero_le _, rfl, Below.refl _ _⟩
    case round =>
      obtain ⟨wa, rfl⟩ : ∃ wa, wa = wr := ⟨wr, rfl⟩
      obtain ⟨j, hj, rfl, hb⟩ := hrel
      have hwr := hb.out.size
      by_cases hlt : j < ys.length
      case neg =>
        obtain rfl : j = ys.length := by omega
        have K6 := Lib.hid (K5.out.trans (hb.out.mono s5))
        by_cases hll : ys.length = xs.length
        · replace hll : ((ys.length : Int) == (xs.length : Int)) = true := beq_iff_eq.mpr (by omega)
          go_wp2
          go_ret
          exact ⟨rfl, K6.out⟩
        · have hlt' : ys.length < xs.length := by omega
          obtain ⟨z, hz⟩ := getElem?_of_lt hlt'
          have hzk := L3.out _ z (Nat.le_refl _) hz
          obtain ⟨b, off, _, _, _, _, _, _, rfl, hbl, _, z0, z1, z2, z3, z4, z5, z6, _⟩ := (X4.out.below hb.out).atCallF hz
          clear hz
          replace hll : ((ys.length : Int) == (xs.length : Int)) = false := beq_eq_false_iff_ne.mpr (by omega)
          go_wp2
          go_ret
          exact ⟨rfl, K6.out⟩
      obtain ⟨c, hc⟩ := getElem?_of_lt hlt
      have hlt2 : j < xs.length := by omega
      obtain ⟨d, hd⟩ := getElem?_of_lt hlt2
      have HE := Lib.hid (L2.out j c d hc hd)
      obtain ⟨b, off, a1, d1, a2, d2, a3, d3, rfl, hbl, hs1, y0, y1, y2, y3, y4, y5, y6, y7, y8, y9, y10, y11, y12⟩ := (X5.out.below hb.out).atCallF hc
      obtain ⟨b', off', a1', d1', a2', d2', a3', d3', rfl, hbl', hs2, x0, x1, x2, x3, x4, x5, x6, x7, x8, x9, x10, x11, x12⟩ := (X4.out.below hb.out).atCallF hd
      clear hc hd
      have HS1 := Lib.hid hs1
      have HS2 := Lib.hid hs2
      clear hs1 hs2
      have g1 : wa.heap.size < wa.heap.size + 1 := by omega
      have g2 : b < wa.heap.size + 1 := by omega
      have g3 : b' < wa.heap.size + 1 := by omega
      by_cases hto : (k : Int) ≤ d.to
      · have hcd : c = ⟨d.th, d.op, d.frm, -1, ResD.zero⟩ := by rw [HE.out]; unfold cut; rw [if_pos hto]
        have HCD := Lib.hid hcd
        clear hcd
        go_wp2_with fail
        refine (sameC_calls _ (fun _ => True) c ⟨d.th, d.op, d.frm, -1, ResD.zero⟩ _ _ _ _ _ _ (HS1.out.below (((Below.refl wa.heap.size wa).alloc (Nat.le_refl _) _).alloc (by simp) _) |>.mono fun _ _ _ => trivial) (Sl.nil _ _)).mono ?_
        rintro e w6 ⟨rfl, hb6⟩
        rw [decide_eq_true HCD.out]
        have K6 := Lib.hid (hb.out.trans (((((Below.refl wa.heap.size wa).alloc (Nat.le_refl _) _).alloc (by simp) _).trans (hb6.mono (by simp; omega))).mono hwr))
        clear hb6
        go_wp2
        go_roundw
        case rel => exact ⟨j + 1, by omega, by first | (go_num; done) | (go_num; omega), K6⟩
        case measure => simp [intOf]; omega
      · have hcd : c = d := by rw [HE.out]; unfold cut; rw [if_neg hto]
        have HCD := Lib.hid hcd
        clear hcd
        go_wp2_with fail
        refine (sameC_calls _ (fun _ => True) c d _ _ _ _ _ _ (HS1.out.below (((Below.refl wa.heap.size wa).alloc (Nat.le_refl _) _).alloc (by simp) _) |>.mono fun _ _ _ => trivial) (HS2.out.below (((Below.refl wa.heap.size wa).alloc (Nat.le_refl _) _).alloc (by simp) _) |>.mono fun _ _ _ => trivial)).mono ?_
        rintro e w6 ⟨rfl, hb6⟩
        rw [decide_eq_true HCD.out]
        have K6 := Lib.hid (hb.out.trans (((((Below.refl wa.heap.size wa).alloc (Nat.le_refl _) _).alloc (by simp) _).trans (hb6.mono (by simp; omega))).mono hwr))
        clear hb6
        go_wp2
        go_roundw
        case rel => exact ⟨j + 1, by omega, by first | (go_num; done) | (go_num; omega), K6⟩
        case measure => simp [intOf]; omega
end Go.Proofs.Ytgpmkcipogljbaa
