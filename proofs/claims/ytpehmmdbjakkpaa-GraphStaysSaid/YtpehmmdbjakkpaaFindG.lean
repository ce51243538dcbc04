/- graph.find: where a property of a key stands, or would. -/
import Derived.Test.YtpehmmdbjakkpaaRefCheck
namespace Go.Proofs.Ytpehmmdbjakkpaa
open Go.RowKit Go.Shelf
set_option linter.unusedSimpArgs false
set_option linter.unusedVariables false
set_option maxRecDepth 20000
theorem isNaN_calls (w : World) (x : Int) : Calls Try.prog 150 #[.int .i64 x] w fun e w' => e = .returned (.bool false) ∧ w' = w := by
  have hx : (x == x) = true := beq_self_eq_true x
  go_enter Try.func150, Try.ntmps150
  go_wp2
  go_ret
  exact ⟨rfl, rfl⟩
def cmpI (x y : Int) : Int := if x < y then -1 else if y < x then 1 else 0
theorem compare_calls (w : World) (x y : Int) : Calls Try.prog 124 #[.int .i64 x, .int .i64 y] w fun e w' => e = .returned (.int .i64 (cmpI x y)) ∧ w' = w := by
  have hc : (x < y ∧ cmpI x y = -1) ∨ (¬ x < y ∧ y < x ∧ cmpI x y = 1) ∨ (¬ x < y ∧ ¬ y < x ∧ cmpI x y = 0) := by
    unfold cmpI
    by_cases h1 : x < y
    · exact .inl ⟨h1, if_pos h1⟩
    · by_cases h2 : y < x
      · exact .inr (.inl ⟨h1, h2, by rw [if_neg h1, if_pos h2]⟩)
      · exact .inr (.inr ⟨h1, h2, by rw [if_neg h1, if_neg h2]⟩)
  go_enter Try.func124, Try.ntmps124
  go_wp2_with fail
  refine (isNaN_calls _ x).mono ?_
  rintro e w1 ⟨rfl, rfl⟩
  go_wp2_with fail
  refine (isNaN_calls _ y).mono ?_
  rintro e w1 ⟨rfl, rfl⟩
  rcases hc with ⟨h1, h2⟩ | ⟨h1, h2, h3⟩ | ⟨h1, h2, h3⟩
  · have HE := Lib.hid h2
    clear h2
    go_wp2
    go_ret
    exact ⟨by rw [HE.out]; rfl, rfl⟩
  · have HE := Lib.hid h3
    have hd : decide (x < y) = false := decide_eq_false (by omega)
    clear h3
    go_wp2
    go_ret
    exact ⟨by rw [HE.out]; rfl, rfl⟩
  · have HE := Lib.hid h3
    have hd : decide (x < y) = false := decide_eq_false (by omega)
    have hd2 : decide (y < x) = false := decide_eq_false (by omega)
    clear h3
    go_wp2
    go_ret
    exact ⟨by rw [HE.out]; rfl, rfl⟩
theorem findC_calls (w : World) (p : P2) (k : Int) : Calls Try.prog 123 #[.agg #[.int .i64 p.x, .int .i64 p.y], .int .i64 k] w fun e w' => e = .returned (.int .i64 (cmpI p.x k)) ∧ Below w.heap.size w w' := by
  go_enter Try.func123, Try.ntmps123
  go_wp2_with fail
  refine (compare_calls _ p.x k).mono ?_
  rintro e w1 ⟨rfl, rfl⟩
  go_wp2
  go_ret
  exact ⟨rfl, (Below.refl _ _).alloc (Nat.le_refl _) _⟩
theorem cmpI_neg {x y : Int} : cmpI x y < 0 ↔ x < y := by
  unfold cmpI
  by_cases h1 : x < y
  · simp [h1]
  · by_cases h2 : y < x <;> simp [h1, h2]
theorem cmpI_zero {x y : Int} : cmpI x y = 0 ↔ x = y := by
  unfold cmpI
  by_cases h1 : x < y
  · simp [h1]; omega
  · by_cases h2 : y < x
    · simp [h1, h2]; omega
    · simp [h1, h2]; omega
/-- Where k stands, or would, among properties that rise. -/
structure FindAt (ps : List P2) (k : Int) (i : Nat) (b : Bool) : Prop where
  le : i ≤ ps.length
  lo : ∀ (m : Nat) (p : P2), m < i → ps[m]? = some p → p.x < k
  hi : ∀ (m : Nat) (p : P2), i ≤ m → ps[m]? = some p → k ≤ p.x
  is : b = true ↔ ∃ p, ps[i]? = some p ∧ p.x = k
theorem rises_lt {ps : List P2} (h : Rises ps ps.length) : ∀ (d i : Nat) (p q : P2), ps[i]? = some p → ps[i + d + 1]? = some q → p.x < q.x := by
  intro d
  induction d with
  | zero => intro i p q hp hq; exact h i p q (List.getElem?_eq_some_iff.1 hq).1 hp hq
  | succ d ih =>
    intro i p q hp hq
    have hl : i + d + 1 < ps.length := by have := (List.getElem?_eq_some_iff.1 hq).1; omega
    have h1 := ih i p _ hp (List.getElem?_eq_getElem hl)
    have h2 := h (i + d + 1) _ q (List.getElem?_eq_some_iff.1 hq).1 (List.getElem?_eq_getElem hl) hq
    omega
theorem rises_le {ps : List P2} (h : Rises ps ps.length) {i j : Nat} {p q : P2} (hij : i ≤ j) (hp : ps[i]? = some p) (hq : ps[j]? = some q) : p.x ≤ q.x := by
  rcases Nat.lt_or_ge i j with h1 | h1
  · have := rises_lt h (j - i - 1) i p q hp (by rw [show i + (j - i - 1) + 1 = j by omega]; exact hq)
    omega
  · obtain rfl : i = j := by omega
    rw [hp] at hq
    injection hq with hq
    rw [hq]
    exact Int.le_refl _
set_option maxHeartbeats 4000000 in
theorem bsearch_calls (w : World) (S : Nat → Prop) (v : Value) (ps : List P2) (k : Int) (h : Row tP w S v ps) (hr : Rises ps ps.length) (hlen : ps.length ≤ 1000000) :
    Calls Try.prog 122 #[v, .int .i64 k, .func (.func 123) #[] #[]] w fun e w' => ∃ (i : Nat) (b : Bool), e = .returned (.tuple #[.int .i64 (i : Int), .bool b]) ∧ FindAt ps k i b ∧ Below w.heap.size w w' := by
  obtain ⟨A, c, rfl⟩ := h.slice
  have H := Lib.hid h
  have HR := Lib.hid hr
  clear h hr
  go_enter Try.func122, Try.ntmps122
  go_wp2
  go_loopw [9, 10] (fun p q wr => ∃ i j : Nat, i ≤ j ∧ j ≤ ps.length ∧ p = .int .i64 (i : Int) ∧ q = .int .i64 (j : Int) ∧ Hid (∀ (m : Nat) (x : P2), m < i → ps[m]? = some x → x.x < k) ∧ Hid (∀ (m : Nat) (x : P2), j ≤ m → ps[m]? = some x → k ≤ x.x) ∧ Hid (Below w.heap.size w wr)) (fun p q _ => (intOf q).toNat - (intOf p).toNat)
  case atStart => exact ⟨0, ps.length, by omega, Nat.le_refl _, rfl, rfl, (fun m x h => by omega), (fun m x h hx => by have := (List.getElem?_eq_some_iff.1 hx).1; omega), Below.refl _ _⟩
  case round =>
    obtain ⟨wa, rfl⟩ : ∃ wa, wa = wr := ⟨wr, rfl⟩
    obtain ⟨i, j, hij, hj, rfl, rfl, hlo, hhi, hb⟩ := hrel
    have hwr := hb.out.size
    by_cases hlt : i < j
    · have hm1 : i ≤ (i + j) / 2 := by omega
      have hm2 : (i + j) / 2 < j := by omega
      have hml : (i + j) / 2 < ps.length := by omega
      obtain ⟨x, hx⟩ := getElem?_of_lt hml
      obtain ⟨b, off, rfl, _, hbl, x0, x1⟩ := (H.out.below hb.out).atP hx
      have HX := Lib.hid hx
      clear hx
      go_wp2_with fail
      refine (findC_calls _ x k).mono ?_
      rintro e w1 ⟨rfl, hb1⟩
      have K1 := Lib.hid (hb.out.trans (hb1.mono hwr))
      clear hb1 x0 x1
      by_cases hc : x.x < k
      · have hd : decide (cmpI x.x k < 0) = true := decide_eq_true (cmpI_neg.2 hc)
        have HLO := Lib.hid (show ∀ (m : Nat) (y : P2), m < (i + j) / 2 + 1 → ps[m]? = some y → y.x < k from fun m y hm hy => by
          have := rises_le HR.out (show m ≤ (i + j) / 2 by omega) hy HX.out
          omega)
        clear hc
        generalize cmpI x.x k = cc at *
        go_wp2
        go_roundw
        case rel => exact ⟨(i + j) / 2 + 1, j, by omega, hj, by first | (go_num; done) | (go_num; omega), rfl, HLO, hhi, K1⟩
        case measure => simp [intOf]; omega
      · have hd : decide (cmpI x.x k < 0) = false := decide_eq_false (fun e => hc (cmpI_neg.1 e))
        have HHI := Lib.hid (show ∀ (m : Nat) (y : P2), (i + j) / 2 ≤ m → ps[m]? = some y → k ≤ y.x from fun m y hm hy => by
          have := rises_le HR.out hm HX.out hy
          omega)
        clear hc
        generalize cmpI x.x k = cc at *
        go_wp2
        go_roundw
        case rel => exact ⟨i, (i + j) / 2, by omega, by omega, rfl, by first | (go_num; done) | (go_num; omega), hlo, HHI, K1⟩
        case measure => simp [intOf]; omega
    · obtain rfl : i = j := by omega
      by_cases hin : i < ps.length
      · obtain ⟨x, hx⟩ := getElem?_of_lt hin
        obtain ⟨b, off, rfl, _, hbl, x0, x1⟩ := (H.out.below hb.out).atP hx
        have HX := Lib.hid hx
        clear hx
        go_wp2_with fail
        refine (findC_calls _ x k).mono ?_
        rintro e w1 ⟨rfl, hb1⟩
        have K1 := Lib.hid (hb.out.trans (hb1.mono hwr))
        clear hb1 x0 x1
        have HFA := Lib.hid (show FindAt ps k i (cmpI x.x k == 0) from ⟨hj, hlo.out, hhi.out, by
          constructor
          · intro e
            exact ⟨x, HX.out, cmpI_zero.1 (beq_iff_eq.mp e)⟩
          · rintro ⟨y, hy, hyk⟩
            rw [HX.out] at hy
            injection hy with hy
            subst hy
            exact beq_iff_eq.mpr (cmpI_zero.2 hyk)⟩)
        generalize cmpI x.x k = cc at *
        go_wp2
        refine bodyPost_ret (v := .tuple #[.int .i64 (i : Int), .bool (cc == 0)]) (by simp [results, Try.results122, go_sem]; try rfl) rfl ⟨i, _, rfl, HFA.out, K1.out⟩
      · have HFA := Lib.hid (show FindAt ps k i false from ⟨hj, hlo.out, hhi.out, ⟨fun e => (by cases e), fun ⟨y, hy, _⟩ => by have := (List.getElem?_eq_some_iff.1 hy).1; omega⟩⟩)
        obtain rfl : i = ps.length := by omega
        go_wp2
        refine bodyPost_ret (v := .tuple #[.int .i64 (ps.length : Int), .bool false]) (by simp [results, Try.results122, go_sem]; try rfl) rfl ⟨ps.length, _, rfl, HFA.out, hb.out⟩
set_option maxHeartbeats 4000000 in
theorem find_calls (w : World) (S : Nat → Prop) (v : Value) (ps : List P2) (k : Int) (h : Row tP w S v ps) (hr : Rises ps ps.length) (hlen : ps.length ≤ 1000000) :
    Calls Try.prog 77 #[v, .int .i64 k] w fun e w' => ∃ (i : Nat) (b : Bool), e = .returned (.tuple #[.int .i64 (i : Int), .bool b]) ∧ FindAt ps k i b ∧ Below w.heap.size w w' := by
  obtain ⟨A, c, rfl⟩ := h.slice
  have H := Lib.hid h
  have HR := Lib.hid hr
  clear h hr
  go_enter Try.func77, Try.ntmps77
  go_wp2_with fail
  refine (bsearch_calls _ S _ ps k H.out HR.out hlen).mono ?_
  rintro e w1 ⟨i, b, rfl, hf, hb⟩
  have HF := Lib.hid hf
  have HB := Lib.hid hb
  clear hf hb
  go_wp2
  refine bodyPost_ret (v := .tuple #[.int .i64 (i : Int), .bool b]) (by simp [results, Try.results77, go_sem]; try rfl) rfl ⟨i, b, rfl, HF.out, HB.out⟩
end Go.Proofs.Ytpehmmdbjakkpaa
