/- ref.Few, hist.Before. -/
import Derived.Test.YtgpmkcipogljbaaDTy
import Derived.Test.YtgpmkcipogljbaaSameR
namespace Go.Proofs.Ytgpmkcipogljbaa
open Go.RowKit
set_option linter.unusedSimpArgs false
set_option linter.unusedVariables false
def EvD.small (x : EvD) : Prop := x.res.ps.length ≤ 100 ∧ x.res.os.length ≤ 100 ∧ x.res.is.length ≤ 100
instance (x : EvD) : Decidable x.small := by unfold EvD.small; exact inferInstance
def fewOf (l : List EvD) (n : Int) : Bool := l.all (fun x => decide x.small) && decide ((l.length : Int) ≤ n)
theorem fewOf_bad {l : List EvD} {n : Int} {k : Nat} {x : EvD} (hx : l[k]? = some x) (h : ¬ x.small) : fewOf l n = false := by
  have : l.all (fun x => decide x.small) = false := by
    rw [List.all_eq_false]
    exact ⟨x, List.mem_of_getElem? hx, by simpa using h⟩
  simp [fewOf, this]
theorem fewOf_good {l : List EvD} {n : Int} (h : ∀ j x, j < l.length → l[j]? = some x → x.small) : fewOf l n = decide ((l.length : Int) ≤ n) := by
  have : l.all (fun x => decide x.small) = true := by
    rw [List.all_eq_true]
    intro x hx
    obtain ⟨j, hj, e⟩ := List.getElem_of_mem hx
    simpa using h j x hj (by rw [List.getElem?_eq_getElem hj, e])
  simp [fewOf, this]
theorem Row.atEvF {w : World} {S : Nat → Prop} {A : Option Addr} {n c : Nat} {xs : List EvD} (h : Row tEv w S (.slice A n c) xs) {j : Nat} {x : EvD} (hj : xs[j]? = some x) :
    ∃ b off a1 d1 a2 d2 a3 d3, A = some ⟨b, off, none⟩ ∧ b < w.heap.size ∧ Sl w S x.res (.slice a1 x.res.ps.length d1) (.slice a2 x.res.os.length d2) (.slice a3 x.res.is.length d3) ∧ w.cell? ⟨b, off + j * 12, none⟩ = some (.int .i64 x.th) ∧ w.cell? ⟨b, off + j * 12 + 1, none⟩ = some (.bool x.done) ∧ w.cell? ⟨b, off + j * 12 + 2, none⟩ = some (.int .i64 x.op.kind) ∧ w.cell? ⟨b, off + j * 12 + 3, none⟩ = some (.int .i64 x.op.a) ∧ w.cell? ⟨b, off + j * 12 + 4, none⟩ = some (.int .i64 x.op.b) ∧ w.cell? ⟨b, off + j * 12 + 5, none⟩ = some (.int .i64 x.op.k) ∧ w.cell? ⟨b, off + j * 12 + 6, none⟩ = some (.int .i64 x.op.v) ∧ w.cell? ⟨b, off + j * 12 + 7, none⟩ = some (.int .i64 x.res.err) ∧ w.cell? ⟨b, off + j * 12 + 8, none⟩ = some (.int .i64 x.res.id) ∧ w.cell? ⟨b, off + j * 12 + 9, none⟩ = some (.slice a1 x.res.ps.length d1) ∧ w.cell? ⟨b, off + j * 12 + 10, none⟩ = some (.slice a2 x.res.os.length d2) ∧ w.cell? ⟨b, off + j * 12 + 11, none⟩ = some (.slice a3 x.res.is.length d3) := by
  obtain ⟨b, off, cs, hA, _, hl, ⟨p, o, i, hs, rfl⟩, hr⟩ := h.at hj
  obtain ⟨a1, d1, rfl⟩ := hs.1.slice
  obtain ⟨a2, d2, rfl⟩ := hs.2.1.slice
  obtain ⟨a3, d3, rfl⟩ := hs.2.2.slice
  exact ⟨b, off, a1, d1, a2, d2, a3, d3, hA, hl, hs, hr 0 _ rfl, hr 1 _ rfl, hr 2 _ rfl, hr 3 _ rfl, hr 4 _ rfl, hr 5 _ rfl, hr 6 _ rfl, hr 7 _ rfl, hr 8 _ rfl, hr 9 _ rfl, hr 10 _ rfl, hr 11 _ rfl⟩
theorem Row.atCallF {w : World} {S : Nat → Prop} {A : Option Addr} {n c : Nat} {xs : List CallD} (h : Row tCall w S (.slice A n c) xs) {j : Nat} {x : CallD} (hj : xs[j]? = some x) :
    ∃ b off a1 d1 a2 d2 a3 d3, A = some ⟨b, off, none⟩ ∧ b < w.heap.size ∧ Sl w S x.res (.slice a1 x.res.ps.length d1) (.slice a2 x.res.os.length d2) (.slice a3 x.res.is.length d3) ∧ w.cell? ⟨b, off + j * 13, none⟩ = some (.int .i64 x.th) ∧ w.cell? ⟨b, off + j * 13 + 1, none⟩ = some (.int .i64 x.op.kind) ∧ w.cell? ⟨b, off + j * 13 + 2, none⟩ = some (.int .i64 x.op.a) ∧ w.cell? ⟨b, off + j * 13 + 3, none⟩ = some (.int .i64 x.op.b) ∧ w.cell? ⟨b, off + j * 13 + 4, none⟩ = some (.int .i64 x.op.k) ∧ w.cell? ⟨b, off + j * 13 + 5, none⟩ = some (.int .i64 x.op.v) ∧ w.cell? ⟨b, off + j * 13 + 6, none⟩ = some (.int .i64 x.frm) ∧ w.cell? ⟨b, off + j * 13 + 7, none⟩ = some (.int .i64 x.to) ∧ w.cell? ⟨b, off + j * 13 + 8, none⟩ = some (.int .i64 x.res.err) ∧ w.cell? ⟨b, off + j * 13 + 9, none⟩ = some (.int .i64 x.res.id) ∧ w.cell? ⟨b, off + j * 13 + 10, none⟩ = some (.slice a1 x.res.ps.length d1) ∧ w.cell? ⟨b, off + j * 13 + 11, none⟩ = some (.slice a2 x.res.os.length d2) ∧ w.cell? ⟨b, off + j * 13 + 12, none⟩ = some (.slice a3 x.res.is.length d3) := by
  obtain ⟨b, off, cs, hA, _, hl, ⟨p, o, i, hs, rfl⟩, hr⟩ := h.at hj
  obtain ⟨a1, d1, rfl⟩ := hs.1.slice
  obtain ⟨a2, d2, rfl⟩ := hs.2.1.slice
  obtain ⟨a3, d3, rfl⟩ := hs.2.2.slice
  exact ⟨b, off, a1, d1, a2, d2, a3, d3, hA, hl, hs, hr 0 _ rfl, hr 1 _ rfl, hr 2 _ rfl, hr 3 _ rfl, hr 4 _ rfl, hr 5 _ rfl, hr 6 _ rfl, hr 7 _ rfl, hr 8 _ rfl, hr 9 _ rfl, hr 10 _ rfl, hr 11 _ rfl, hr 12 _ rfl⟩
def beforeB (a b : CallD) : Bool := decide (0 ≤ a.to) && decide (a.to < b.frm)
set_option maxRecDepth 100000 in
set_option maxHeartbeats 2000000 in
theorem before_calls (w : World) (a b : CallD) (p1 p2 p3 q1 q2 q3 : Value) : Calls Try.prog 12 #[.agg #[.int .i64 a.th, .int .i64 a.op.kind, .int .i64 a.op.a, .int .i64 a.op.b, .int .i64 a.op.k, .int .i64 a.op.v, .int .i64 a.frm, .int .i64 a.to, .int .i64 a.res.err, .int .i64 a.res.id, p1, p2, p3], .agg #[.int .i64 b.th, .int .i64 b.op.kind, .int .i64 b.op.a, .int .i64 b.op.b, .int .i64 b.op.k, .int .i64 b.op.v, .int .i64 b.frm, .int .i64 b.to, .int .i64 b.res.err, .int .i64 b.res.id, q1, q2, q3]] w fun e w' => e = .returned (.bool (beforeB a b)) ∧ Below w.heap.size w w' := by
  have hw : ∀ o1 o2, Below w.heap.size w ((w.alloc o1).alloc o2) := fun o1 o2 => ((Below.refl w.heap.size w).alloc (Nat.le_refl _) _).alloc (by simp) _
  have HW := Lib.hid hw
  clear hw
  by_cases h : 0 ≤ a.to
  · have e : beforeB a b = decide (a.to < b.frm) := by simp [beforeB, h]
    rw [e]
    clear e
    go_enter Try.func12, Try.ntmps12
    go_wp2
    all_goals (go_ret; exact ⟨by first | rfl | simp_all, HW.out _ _⟩)
  · have e : beforeB a b = false := by simp [beforeB, h]
    rw [e]
    clear e
    go_enter Try.func12, Try.ntmps12
    go_wp2
    all_goals (go_ret; exact ⟨by first | rfl | simp_all, HW.out _ _⟩)
set_option maxRecDepth 100000 in
set_option maxHeartbeats 4000000 in
theorem few_calls (w : World) (S : Nat → Prop) (v : Value) (l : List EvD) (n : Int) (h : Row tEv w S v l) : Calls Try.prog 10 #[v, .int .i64 n] w fun e w' => e = .returned (.bool (fewOf l n)) ∧ Below w.heap.size w w' := by
  obtain ⟨A, c, rfl⟩ := h.slice
  have hm := h.len
  unfold maxLen at hm
  have H := Lib.hid h
  clear h
  go_enter Try.func10, Try.ntmps10
  go_wp2
  go_loopw [9] (fun i wr => ∃ k : Nat, k ≤ l.length ∧ i = .int .i64 (k : Int) ∧ Hid (∀ j x, j < k → l[j]? = some x → x.small) ∧ Hid (Below w.heap.size w wr)) (fun i _ => l.length - (intOf i).toNat)
  case atStart => exact ⟨0, Nat.zero_le _, rfl, fun j x hj => absurd hj (by omega), Below.refl _ _⟩
  case round =>
    obtain ⟨k, hk, rfl, he, hb⟩ := hrel
    have hwr := hb.out.size
    by_cases hlt : k < l.length
    · obtain ⟨x, hx⟩ := getElem?_of_lt hlt
      obtain ⟨b, off, a1, d1, a2, d2, a3, d3, rfl, hbl, _, x0, x1, x2, x3, x4, x5, x6, x7, x8, x9, x10, x11⟩ := (H.out.below hb.out).atEvF hx
      have HX := Lib.hid hx
      clear hx
      by_cases q1 : x.res.ps.length ≤ 100
      case neg =>
        have HN := Lib.hid (fewOf_bad (n := n) HX.out (fun h => q1 h.1))
        go_wp2
        go_ret
        exact ⟨by rw [HN.out]; rfl, hb.out.alloc hwr _⟩
      by_cases q2 : x.res.os.length ≤ 100
      case neg =>
        have HN := Lib.hid (fewOf_bad (n := n) HX.out (fun h => q2 h.2.1))
        go_wp2
        go_ret
        exact ⟨by rw [HN.out]; rfl, hb.out.alloc hwr _⟩
      by_cases q3 : x.res.is.length ≤ 100
      case neg =>
        have HN := Lib.hid (fewOf_bad (n := n) HX.out (fun h => q3 h.2.2))
        go_wp2
        go_ret
        exact ⟨by rw [HN.out]; rfl, hb.out.alloc hwr _⟩
      go_wp2
      go_roundw
      case rel => exact ⟨k + 1, by omega, by first | (go_num; done) | (go_num; omega), fun j y hj hy => (by
        rcases Nat.lt_or_ge j k with h | h
        · exact he.out j y h hy
        · obtain rfl : j = k := by omega
          rw [HX.out] at hy
          injection hy with hy
          subst hy
          exact ⟨q1, q2, q3⟩), hb.out.alloc hwr _⟩
      case measure => simp [intOf]; omega
    · obtain rfl : k = l.length := by omega
      have hd := fewOf_good (n := n) he.out
      have HN := Lib.hid hd
      clear hd
      go_wp2
      all_goals (go_ret; exact ⟨by rw [HN.out]; first | rfl | simp_all, hb.out⟩)
end Go.Proofs.Ytgpmkcipogljbaa
