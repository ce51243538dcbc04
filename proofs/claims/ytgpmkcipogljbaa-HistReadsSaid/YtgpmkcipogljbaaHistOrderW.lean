/- HistOrder: being ahead is an order. -/
import Derived.Test.YtgpmkcipogljbaaLiveH
import Derived.Test.YtgpmkcipogljbaaReadsH
namespace Go.Proofs.Ytgpmkcipogljbaa
open Go.RowKit
set_option linter.unusedSimpArgs false
set_option linter.unusedVariables false
def CallD.sound (c : CallD) : Prop := 0 ≤ c.to → c.frm < c.to
theorem step_sound {i : Nat} {x : EvD} {s s' : St} (h : step i x s = some s') (hs : ∀ c ∈ s.out, c.frm < (i : Int) ∧ c.sound) : ∀ c ∈ s'.out, c.frm < ((i + 1 : Nat) : Int) ∧ c.sound := by
  unfold step at h
  split at h
  · cases h
  · split at h
    · split at h
      · injection h with h
        subst h
        intro c hc
        rcases List.mem_append.1 hc with hc | hc
        · have := hs c hc; exact ⟨by omega, this.2⟩
        · rw [List.mem_singleton.1 hc]
          exact ⟨by simp; omega, fun h => by simp at h⟩
      · cases h
    · split at h
      · cases h
      · split at h
        · cases h
        · rename_i c0 hc0
          split at h
          · injection h with h
            subst h
            intro c hc
            rcases List.mem_or_eq_of_mem_set hc with hc | hc
            · have := hs c hc; exact ⟨by omega, this.2⟩
            · have h0 := hs c0 (List.mem_of_getElem? hc0)
              rw [hc]
              exact ⟨by show c0.frm < _; omega, fun _ => h0.1⟩
          · cases h
theorem runF_sound : ∀ (l : List EvD) (i : Nat) (s s' : St), runF i l s = some s' → (∀ c ∈ s.out, c.frm < (i : Int) ∧ c.sound) → ∀ c ∈ s'.out, c.sound := by
  intro l
  induction l with
  | nil => intro i s s' h hs c hc; injection h with h; subst h; exact (hs c hc).2
  | cons x l ih =>
    intro i s s' h hs
    have h : (step i x s).bind (runF (i + 1) l) = some s' := h
    cases h1 : step i x s with
    | none => rw [h1] at h; cases h
    | some s1 =>
      rw [h1] at h
      exact ih (i + 1) s1 s' h (step_sound h1 hs)
theorem out_sound (l : List EvD) : ∀ c ∈ outOf (runL l), c.sound := by
  cases h : runL l with
  | none => intro c hc; cases hc
  | some s => exact runF_sound l 0 St.zero s h (fun c hc => by cases hc)
theorem before_irrefl {a : CallD} (h : a.sound) : beforeB a a = false := by
  unfold beforeB
  by_cases h1 : 0 ≤ a.to
  · have := h h1
    simp [h1]; omega
  · simp [h1]
theorem before_trans {a b c : CallD} (hb : b.sound) (h1 : beforeB a b = true) (h2 : beforeB b c = true) : beforeB a c = true := by
  unfold beforeB at *
  simp only [Bool.and_eq_true, decide_eq_true_eq] at *
  have := hb h2.1
  exact ⟨h1.1, by omega⟩
theorem small_few {l : List EvD} {n : Int} (h : fewOf l n = true) : (∀ x ∈ l, x.res.few) ∧ (l.length : Int) ≤ n := by
  simp only [fewOf, Bool.and_eq_true, List.all_eq_true, decide_eq_true_eq] at h
  exact ⟨fun x hx => by obtain ⟨h1, h2, h3⟩ := h.1 x hx; exact ⟨by omega, by omega, by omega⟩, h.2⟩
set_option maxRecDepth 100000 in
set_option maxHeartbeats 8000000 in
theorem histOrder_walk (w : World) (v : Value) (l : List EvD) (hr : Row tEv w (fun _ => True) v l) (okl : ∀ x ∈ l, okI x.th) : Calls Try.prog 3 #[v] w fun e w' => e = .returned (.bool true) ∧ Below w.heap.size w w' := by
  obtain ⟨A, c, rfl⟩ := hr.slice
  have HR := Lib.hid hr
  have OK := Lib.hid okl
  clear hr okl
  go_enter Try.func3, Try.ntmps3
  go_wp2_with fail
  refine (live_calls _).mono ?_
  rintro e w1 ⟨rfl, hb1⟩
  have K1 := Lib.hid hb1
  clear hb1
  have s1 := K1.out.size
  have HR1 := Lib.hid (HR.out.below K1.out)
  go_wp2_with fail
  refine (few_calls _ _ _ _ _ HR1.out).mono ?_
  rintro e w2 ⟨rfl, hb2⟩
  have K2 := Lib.hid (K1.out.trans (hb2.mono s1))
  clear hb2
  have s2 := K2.out.size
  have HR2 := Lib.hid (HR.out.below K2.out)
  cases hfew : fewOf l 30
  · clear hfew
    go_wp2
    go_ret
    exact ⟨rfl, K2.out⟩
  have HF := Lib.hid (small_few hfew)
  clear hfew
  go_wp2_with fail
  refine (calls_calls _ _ _ _ HR2.out (by have := HF.out.2; omega) HF.out.1 OK.out).mono ?_
  rintro e w3 ⟨v3, rfl, ho3, hb3⟩
  have K3 := Lib.hid (K2.out.trans (hb3.mono s2))
  clear hb3
  have s3 := K3.out.size
  have HS := Lib.hid (out_sound l)
  cases hrun : runL l with
  | none =>
    clear hrun ho3
    simp only [errOf]
    go_wp2
    go_ret
    exact ⟨rfl, K3.out⟩
  | some st =>
    rw [hrun] at ho3 HS
    clear hrun
    simp only [errOf]
    simp only [outOf] at ho3 HS
    generalize st.out = xs at ho3 HS
    have hm := ho3.len
    unfold maxLen at hm
    obtain ⟨A3, c3, rfl⟩ := ho3.slice
    have HX := Lib.hid ho3
    clear ho3
    go_wp2
    go_loopw [25] (fun i wr => ∃ k : Nat, k ≤ xs.length ∧ i = .int .i64 (k : Int) ∧ Hid (Below w3.heap.size w3 wr)) (fun i _ => xs.length - (intOf i).toNat)
    case atStart => exact ⟨0, Nat.zero_le _, rfl, Below.refl _ _⟩
    case round =>
      obtain ⟨k, hk, rfl, hb⟩ := hrel
      have hwr := hb.out.size
      by_cases hlt : k < xs.length
      case neg =>
        go_wp2
        go_ret
        exact ⟨rfl, K3.out.trans (hb.out.mono s3)⟩
      obtain ⟨x, hx⟩ := getElem?_of_lt hlt
      have SX := Lib.hid (HS.out x (List.mem_of_getElem? hx))
      obtain ⟨b, off, a1, d1, a2, d2, a3, d3, rfl, hbl, _, x0, x1, x2, x3, x4, x5, x6, x7, x8, x9, x10, x11, x12⟩ := (HX.out.below hb.out).atCallF hx
      clear hx
      go_wp2_with fail
      refine (before_calls _ x x _ _ _ _ _ _).mono ?_
      rintro e w4 ⟨rfl, hb4⟩
      rw [before_irrefl SX.out]
      obtain ⟨hc4, hf4⟩ := bcell hb4
      have hs4 := hb4.size
      have K4 := Lib.hid ((hb.out.alloc hwr (.cells #[.int .i64 x.th, .int .i64 x.op.kind, .int .i64 x.op.a, .int .i64 x.op.b, .int .i64 x.op.k, .int .i64 x.op.v, .int .i64 x.frm, .int .i64 x.to, .int .i64 x.res.err, .int .i64 x.res.id, .slice a1 x.res.ps.length d1, .slice a2 x.res.os.length d2, .slice a3 x.res.is.length d3] 36)).trans (hb4.mono (by simp; omega)))
      clear hb4 x0 x1 x2 x3 x4 x5 x6 x7 x8 x9 x10 x11 x12 hf4
      simp only [World.size_alloc] at hs4 hc4
      have g4 : wr.heap.size < w4.heap.size := by omega
      have k4 := K4.out.size
      go_wp2
      obtain ⟨wa, rfl⟩ : ∃ wa, wa = wr := ⟨wr, rfl⟩
      go_loopw [34] (fun i wq => ∃ k2 : Nat, k2 ≤ xs.length ∧ i = .int .i64 (k2 : Int) ∧ Hid (Below w4.heap.size w4 wq)) (fun i _ => xs.length - (intOf i).toNat)
      case atStart => exact ⟨0, Nat.zero_le _, rfl, Below.refl _ _⟩
      case round =>
        obtain ⟨wq, rfl⟩ : ∃ wq, wq = wr := ⟨wr, rfl⟩
        obtain ⟨k2, hk2, rfl, hb2⟩ := hrel
        have hwq := hb2.out.size
        have K5 := Lib.hid (K4.out.trans (hb2.out.mono k4))
        have k5 := K5.out.size
        by_cases hlt2 : k2 < xs.length
        case neg =>
          go_wp2
          go_roundw
          case rel => exact ⟨k + 1, by omega, by first | (go_num; done) | (go_num; omega), K5⟩
          case measure => simp [intOf]; omega
        obtain ⟨y, hy⟩ := getElem?_of_lt hlt2
        have SY := Lib.hid (HS.out y (List.mem_of_getElem? hy))
        obtain ⟨b', off', a1', d1', a2', d2', a3', d3', hA, _, _, y0, y1, y2, y3, y4, y5, y6, y7, y8, y9, y10, y11, y12⟩ := (HX.out.below K5.out).atCallF hy
        injection hA with hA
        injection hA with e1 e2
        subst e1 e2
        clear hy
        have K6 := Lib.hid (K5.out.alloc k5 (.cells #[.int .i64 y.th, .int .i64 y.op.kind, .int .i64 y.op.a, .int .i64 y.op.b, .int .i64 y.op.k, .int .i64 y.op.v, .int .i64 y.frm, .int .i64 y.to, .int .i64 y.res.err, .int .i64 y.res.id, .slice a1' y.res.ps.length d1', .slice a2' y.res.os.length d2', .slice a3' y.res.is.length d3'] 36))
        have hc2 := (bcell hb2.out).1
        have g5 : wa.heap.size < wq.heap.size := by omega
        have g6 : wa.heap.size < wq.heap.size + 1 := by omega
        have g7 : wq.heap.size < wq.heap.size + 1 := by omega
        go_wp2
        clear y0 y1 y2 y3 y4 y5 y6 y7 y8 y9 y10 y11 y12
        go_loopw [40] (fun i wp => ∃ k3 : Nat, k3 ≤ xs.length ∧ i = .int .i64 (k3 : Int) ∧ Hid (Below (wq.alloc (.cells #[.int .i64 y.th, .int .i64 y.op.kind, .int .i64 y.op.a, .int .i64 y.op.b, .int .i64 y.op.k, .int .i64 y.op.v, .int .i64 y.frm, .int .i64 y.to, .int .i64 y.res.err, .int .i64 y.res.id, .slice a1' y.res.ps.length d1', .slice a2' y.res.os.length d2', .slice a3' y.res.is.length d3'] 36)).heap.size (wq.alloc (.cells #[.int .i64 y.th, .int .i64 y.op.kind, .int .i64 y.op.a, .int .i64 y.op.b, .int .i64 y.op.k, .int .i64 y.op.v, .int .i64 y.frm, .int .i64 y.to, .int .i64 y.res.err, .int .i64 y.res.id, .slice a1' y.res.ps.length d1', .slice a2' y.res.os.length d2', .slice a3' y.res.is.length d3'] 36)) wp)) (fun i _ => xs.length - (intOf i).toNat)
        case atStart => exact ⟨0, Nat.zero_le _, rfl, Below.refl _ _⟩
        case round =>
          obtain ⟨wp, rfl⟩ : ∃ wp, wp = wr := ⟨wr, rfl⟩
          obtain ⟨k3, hk3, rfl, hb3⟩ := hrel
          have hwp := hb3.out.size
          have k6 := K6.out.size
          have K7 := Lib.hid (K6.out.trans (hb3.out.mono k6))
          have k7 := K7.out.size
          by_cases hlt3 : k3 < xs.length
          case neg =>
            have K8 := Lib.hid (((Below.refl w4.heap.size w4).trans hb2.out).alloc hwq (.cells #[.int .i64 y.th, .int .i64 y.op.kind, .int .i64 y.op.a, .int .i64 y.op.b, .int .i64 y.op.k, .int .i64 y.op.v, .int .i64 y.frm, .int .i64 y.to, .int .i64 y.res.err, .int .i64 y.res.id, .slice a1' y.res.ps.length d1', .slice a2' y.res.os.length d2', .slice a3' y.res.is.length d3'] 36) |>.trans (hb3.out.mono (by simp; omega)))
            go_wp2
            go_roundw
            case rel => exact ⟨k2 + 1, by omega, by first | (go_num; done) | (go_num; omega), K8⟩
            case measure => simp [intOf]; omega
          obtain ⟨z, hz⟩ := getElem?_of_lt hlt3
          obtain ⟨b', off', a1z, d1z, a2z, d2z, a3z, d3z, hA, _, _, z0, z1, z2, z3, z4, z5, z6, z7, z8, z9, z10, z11, z12⟩ := (HX.out.below K7.out).atCallF hz
          injection hA with hA
          injection hA with e1 e2
          subst e1 e2
          clear hz
          have hc3 := (bcell hb3.out).1
          simp only [World.size_alloc] at hwp hc3
          have g8 : wa.heap.size < wp.heap.size := by omega
          have g9 : wq.heap.size < wp.heap.size := by omega
          have g10 : wa.heap.size < wp.heap.size + 1 := by omega
          have g11 : wq.heap.size < wp.heap.size + 1 := by omega
          have g12 : wp.heap.size < wp.heap.size + 1 := by omega
          go_wp2_with fail
          refine (before_calls _ x y _ _ _ _ _ _).mono ?_
          rintro e w6 ⟨rfl, hb6⟩
          have hc6 := (bcell hb6).1
          have hs6 := hb6.size
          have L6 := Lib.hid ((hb3.out.alloc (Nat.le_trans (by simp) hwp) (.cells #[.int .i64 z.th, .int .i64 z.op.kind, .int .i64 z.op.a, .int .i64 z.op.b, .int .i64 z.op.k, .int .i64 z.op.v, .int .i64 z.frm, .int .i64 z.to, .int .i64 z.res.err, .int .i64 z.res.id, .slice a1z z.res.ps.length d1z, .slice a2z z.res.os.length d2z, .slice a3z z.res.is.length d3z] 36)).trans (hb6.mono (by simp; omega)))
          clear hb6
          simp only [World.size_alloc] at hs6 hc6
          have l6 := L6.out.size
          cases hxy : beforeB x y
          · clear hxy
            go_wp2
            go_roundw
            case rel => exact ⟨k3 + 1, by omega, by first | (go_num; done) | (go_num; omega), L6⟩
            case measure => simp [intOf]; omega
          have HXY := Lib.hid hxy
          clear hxy
          have g13 : wa.heap.size < w6.heap.size := by omega
          have g14 : wp.heap.size < w6.heap.size := by omega
          go_wp2_with fail
          refine (before_calls _ y z _ _ _ _ _ _).mono ?_
          rintro e w7 ⟨rfl, hb7⟩
          have hc7 := (bcell hb7).1
          have hs7 := hb7.size
          have L7 := Lib.hid (L6.out.trans (hb7.mono l6))
          have l7 := L7.out.size
          clear hb7
          cases hyz : beforeB y z
          · clear hyz
            go_wp2
            go_roundw
            case rel => exact ⟨k3 + 1, by omega, by first | (go_num; done) | (go_num; omega), L7⟩
            case measure => simp [intOf]; omega
          have HYZ := Lib.hid hyz
          clear hyz
          go_wp2_with fail
          refine (before_calls _ x z _ _ _ _ _ _).mono ?_
          rintro e w8 ⟨rfl, hb8⟩
          have L8 := Lib.hid (L7.out.trans (hb8.mono l7))
          clear hb8
          rw [before_trans SY.out HXY.out HYZ.out]
          go_wp2
          go_roundw
          case rel => exact ⟨k3 + 1, by omega, by first | (go_num; done) | (go_num; omega), L8⟩
          case measure => simp [intOf]; omega
end Go.Proofs.Ytgpmkcipogljbaa
