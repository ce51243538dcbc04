/- graph.find: where a property of a key stands, or would. graph.Get, and the reference's Has. graph.Cut and graph.Drop. graph.Drop. -/
import Derived.Test.YtpehmmdbjakkpaaGreatRefCheck
namespace Go.Proofs.YtpehmmdbjakkpaaGreat
open Go.RowKit Go.Shelf
set_option linter.unusedSimpArgs false
set_option linter.unusedVariables false
set_option maxRecDepth 20000
theorem isNaN_calls (w : World) (x : Int) : Calls Tryz.prog 131 #[.int .i64 x] w fun e w' => e = .returned (.bool false) ∧ w' = w := by
 have hx : (x == x) = true := beq_self_eq_true x
 go_enter Tryz.func131, Tryz.ntmps131
 go_wp2
 go_ret
 exact ⟨rfl, rfl⟩
def cmpI (x y : Int) : Int := if x < y then -1 else if y < x then 1 else 0
theorem compare_calls (w : World) (x y : Int) : Calls Tryz.prog 126 #[.int .i64 x, .int .i64 y] w fun e w' => e = .returned (.int .i64 (cmpI x y)) ∧ w' = w := by
 have hc : (x < y ∧ cmpI x y = -1) ∨ (¬ x < y ∧ y < x ∧ cmpI x y = 1) ∨ (¬ x < y ∧ ¬ y < x ∧ cmpI x y = 0) := by
  unfold cmpI
  by_cases h1 : x < y
  ·
   exact .inl ⟨h1, if_pos h1⟩
  ·
   by_cases h2 : y < x
   ·
    exact .inr (.inl ⟨h1, h2, by rw [if_neg h1, if_pos h2]⟩)
   ·
    exact .inr (.inr ⟨h1, h2, by rw [if_neg h1, if_neg h2]⟩)
 go_enter Tryz.func126, Tryz.ntmps126
 go_wp2_with fail
 refine (isNaN_calls _ x).mono ?_
 rintro e w1 ⟨rfl, rfl⟩
 go_wp2_with fail
 refine (isNaN_calls _ y).mono ?_
 rintro e w1 ⟨rfl, rfl⟩
 rcases hc with ⟨h1, h2⟩ | ⟨h1, h2, h3⟩ | ⟨h1, h2, h3⟩
 ·
  have HE := Lib.hid h2
  clear h2
  go_wp2
  go_ret
  exact ⟨by rw [HE.out]; rfl, rfl⟩
 ·
  have HE := Lib.hid h3
  have hd : decide (x < y) = false := decide_eq_false (by omega)
  clear h3
  go_wp2
  go_ret
  exact ⟨by rw [HE.out]; rfl, rfl⟩
 ·
  have HE := Lib.hid h3
  have hd : decide (x < y) = false := decide_eq_false (by omega)
  have hd2 : decide (y < x) = false := decide_eq_false (by omega)
  clear h3
  go_wp2
  go_ret
  exact ⟨by rw [HE.out]; rfl, rfl⟩
theorem findC_calls (w : World) (p : P2) (k : Int) : Calls Tryz.prog 125 #[.agg #[.int .i64 p.x, .int .i64 p.y], .int .i64 k] w fun e w' => e = .returned (.int .i64 (cmpI p.x k)) ∧ Below w.heap.size w w' := by
 go_enter Tryz.func125, Tryz.ntmps125
 go_wp2_with fail
 refine (compare_calls _ p.x k).mono ?_
 rintro e w1 ⟨rfl, rfl⟩
 go_wp2
 go_ret
 exact ⟨rfl, (Below.refl _ _).alloc (Nat.le_refl _) _⟩
theorem cmpI_neg {x y : Int} : cmpI x y < 0 ↔ x < y := by
 unfold cmpI
 by_cases h1 : x < y
 ·
  simp [h1]
 ·
  by_cases h2 : y < x <;> simp [h1, h2]
theorem cmpI_zero {x y : Int} : cmpI x y = 0 ↔ x = y := by
 unfold cmpI
 by_cases h1 : x < y
 ·
  simp [h1]; omega
 ·
  by_cases h2 : y < x
  ·
   simp [h1, h2]; omega
  ·
   simp [h1, h2]; omega
/-- Where k stands, or would, among properties that rise. -/
structure FindAt (ps : List P2) (k : Int) (i : Nat) (b : Bool) : Prop where
 le : i ≤ ps.length
 lo : ∀ (m : Nat) (p : P2), m < i → ps[m]? = some p → p.x < k
 hi : ∀ (m : Nat) (p : P2), i ≤ m → ps[m]? = some p → k ≤ p.x
 is : b = true ↔ ∃ p, ps[i]? = some p ∧ p.x = k
theorem rises_lt {ps : List P2} (h : Rises ps ps.length) : ∀ (d i : Nat) (p q : P2), ps[i]? = some p → ps[i + d + 1]? = some q → p.x < q.x := by
 intro d
 induction d with
 | zero => intro i p q hp hq; exact h i p q (List.getElem?_eq_some_iff.1 hq).1 hp hq
 | succ d ih =>
  intro i p q hp hq
  have hl : i + d + 1 < ps.length := by have := (List.getElem?_eq_some_iff.1 hq).1; omega
  have h1 := ih i p _ hp (List.getElem?_eq_getElem hl)
  have h2 := h (i + d + 1) _ q (List.getElem?_eq_some_iff.1 hq).1 (List.getElem?_eq_getElem hl) hq
  omega
theorem rises_le {ps : List P2} (h : Rises ps ps.length) {i j : Nat} {p q : P2} (hij : i ≤ j) (hp : ps[i]? = some p) (hq : ps[j]? = some q) : p.x ≤ q.x := by
 rcases Nat.lt_or_ge i j with h1 | h1
 ·
  have := rises_lt h (j - i - 1) i p q hp (by rw [show i + (j - i - 1) + 1 = j by omega]; exact hq)
  omega
 ·
  obtain rfl : i = j := by omega
  rw [hp] at hq
  injection hq with hq
  rw [hq]
  exact Int.le_refl _
set_option maxHeartbeats 4000000 in
theorem bsearch_calls (w : World) (S : Nat → Prop) (v : Value) (ps : List P2) (k : Int) (h : Row tP w S v ps) (hr : Rises ps ps.length) (hlen : ps.length ≤ 1000000) :
  Calls Tryz.prog 124 #[v, .int .i64 k, .func (.func 125) #[] #[]] w fun e w' => ∃ (i : Nat) (b : Bool), e = .returned (.tuple #[.int .i64 (i : Int), .bool b]) ∧ FindAt ps k i b ∧ Below w.heap.size w w' := by
 obtain ⟨A, c, rfl⟩ := h.slice
 have H := Lib.hid h
 have HR := Lib.hid hr
 clear h hr
 go_enter Tryz.func124, Tryz.ntmps124
 go_wp2
 go_loopw [9, 10] (fun p q wr => ∃ i j : Nat, i ≤ j ∧ j ≤ ps.length ∧ p = .int .i64 (i : Int) ∧ q = .int .i64 (j : Int) ∧ Hid (∀ (m : Nat) (x : P2), m < i → ps[m]? = some x → x.x < k) ∧ Hid (∀ (m : Nat) (x : P2), j ≤ m → ps[m]? = some x → k ≤ x.x) ∧ Hid (Below w.heap.size w wr)) (fun p q _ => (intOf q).toNat - (intOf p).toNat)
 case atStart => exact ⟨0, ps.length, by omega, Nat.le_refl _, rfl, rfl, (fun m x h => by omega), (fun m x h hx => by have := (List.getElem?_eq_some_iff.1 hx).1; omega), Below.refl _ _⟩
 case round =>
  obtain ⟨wa, rfl⟩ : ∃ wa, wa = wr := ⟨wr, rfl⟩
  obtain ⟨i, j, hij, hj, rfl, rfl, hlo, hhi, hb⟩ := hrel
  have hwr := hb.out.size
  by_cases hlt : i < j
  ·
   have hm1 : i ≤ (i + j) / 2 := by omega
   have hm2 : (i + j) / 2 < j := by omega
   have hml : (i + j) / 2 < ps.length := by omega
   obtain ⟨x, hx⟩ := getElem?_of_lt hml
   obtain ⟨b, off, rfl, _, hbl, x0, x1⟩ := (H.out.below hb.out).atP hx
   have HX := Lib.hid hx
   clear hx
   go_wp2_with fail
   refine (findC_calls _ x k).mono ?_
   rintro e w1 ⟨rfl, hb1⟩
   have K1 := Lib.hid (hb.out.trans (hb1.mono hwr))
   clear hb1 x0 x1
   by_cases hc : x.x < k
   ·
    have hd : decide (cmpI x.x k < 0) = true := decide_eq_true (cmpI_neg.2 hc)
    have HLO := Lib.hid (show ∀ (m : Nat) (y : P2), m < (i + j) / 2 + 1 → ps[m]? = some y → y.x < k from fun m y hm hy => by
     have := rises_le HR.out (show m ≤ (i + j) / 2 by omega) hy HX.out
     omega)
    clear hc
    generalize cmpI x.x k = cc at *
    go_wp2
    go_roundw
    case rel => exact ⟨(i + j) / 2 + 1, j, by omega, hj, by first | (go_num; done) | (go_num; omega), rfl, HLO, hhi, K1⟩
    case measure => simp [intOf]; omega
   ·
    have hd : decide (cmpI x.x k < 0) = false := decide_eq_false (fun e => hc (cmpI_neg.1 e))
    have HHI := Lib.hid (show ∀ (m : Nat) (y : P2), (i + j) / 2 ≤ m → ps[m]? = some y → k ≤ y.x from fun m y hm hy => by
     have := rises_le HR.out hm HX.out hy
     omega)
    clear hc
    generalize cmpI x.x k = cc at *
    go_wp2
    go_roundw
    case rel => exact ⟨i, (i + j) / 2, by omega, by omega, rfl, by first | (go_num; done) | (go_num; omega), hlo, HHI, K1⟩
    case measure => simp [intOf]; omega
  ·
   obtain rfl : i = j := by omega
   by_cases hin : i < ps.length
   ·
    obtain ⟨x, hx⟩ := getElem?_of_lt hin
    obtain ⟨b, off, rfl, _, hbl, x0, x1⟩ := (H.out.below hb.out).atP hx
    have HX := Lib.hid hx
    clear hx
    go_wp2_with fail
    refine (findC_calls _ x k).mono ?_
    rintro e w1 ⟨rfl, hb1⟩
    have K1 := Lib.hid (hb.out.trans (hb1.mono hwr))
    clear hb1 x0 x1
    have HFA := Lib.hid (show FindAt ps k i (cmpI x.x k == 0) from ⟨hj, hlo.out, hhi.out, by
     constructor
     ·
      intro e
      exact ⟨x, HX.out, cmpI_zero.1 (beq_iff_eq.mp e)⟩
     ·
      rintro ⟨y, hy, hyk⟩
      rw [HX.out] at hy
      injection hy with hy
      subst hy
      exact beq_iff_eq.mpr (cmpI_zero.2 hyk)⟩)
    generalize cmpI x.x k = cc at *
    go_wp2
    refine bodyPost_ret (v := .tuple #[.int .i64 (i : Int), .bool (cc == 0)]) (by simp [results, Tryz.results124, go_sem]; try rfl) rfl ⟨i, _, rfl, HFA.out, K1.out⟩
   ·
    have HFA := Lib.hid (show FindAt ps k i false from ⟨hj, hlo.out, hhi.out, ⟨fun e => (by cases e), fun ⟨y, hy, _⟩ => by have := (List.getElem?_eq_some_iff.1 hy).1; omega⟩⟩)
    obtain rfl : i = ps.length := by omega
    go_wp2
    refine bodyPost_ret (v := .tuple #[.int .i64 (ps.length : Int), .bool false]) (by simp [results, Tryz.results124, go_sem]; try rfl) rfl ⟨ps.length, _, rfl, HFA.out, hb.out⟩
set_option maxHeartbeats 4000000 in
theorem find_calls (w : World) (S : Nat → Prop) (v : Value) (ps : List P2) (k : Int) (h : Row tP w S v ps) (hr : Rises ps ps.length) (hlen : ps.length ≤ 1000000) :
  Calls Tryz.prog 114 #[v, .int .i64 k] w fun e w' => ∃ (i : Nat) (b : Bool), e = .returned (.tuple #[.int .i64 (i : Int), .bool b]) ∧ FindAt ps k i b ∧ Below w.heap.size w w' := by
 obtain ⟨A, c, rfl⟩ := h.slice
 have H := Lib.hid h
 have HR := Lib.hid hr
 clear h hr
 go_enter Tryz.func114, Tryz.ntmps114
 go_wp2_with fail
 refine (bsearch_calls _ S _ ps k H.out HR.out hlen).mono ?_
 rintro e w1 ⟨i, b, rfl, hf, hb⟩
 have HF := Lib.hid hf
 have HB := Lib.hid hb
 clear hf hb
 go_wp2
 refine bodyPost_ret (v := .tuple #[.int .i64 (i : Int), .bool b]) (by simp [results, Tryz.results114, go_sem]; try rfl) rfl ⟨i, b, rfl, HF.out, HB.out⟩
end Go.Proofs.YtpehmmdbjakkpaaGreat
namespace Go.Proofs.YtpehmmdbjakkpaaGreat
open Go.RowKit Go.Shelf
set_option linter.unusedSimpArgs false
set_option linter.unusedVariables false
theorem atOf_at {xs : List NodeD} {n : Int} (h : ¬ atOf xs n < 0) : ∃ (i : Nat) (x : NodeD), atOf xs n = (i : Int) ∧ xs[i]? = some x ∧ x.id = n := by
 rcases idxB_cases (fun x : NodeD => x.id == n) xs with ⟨e, _⟩ | ⟨k, x, e, hx, hp, _⟩
 ·
  unfold atOf at h; rw [e] at h; omega
 ·
  exact ⟨k, x, e, hx, by simpa using hp⟩
/-- A node's properties, and whether it is. -/
def getOf (g : GraphD) (n : Int) : List P2 × Int := if atOf g.nodes n < 0 then ([], 2) else match g.nodes[(atOf g.nodes n).toNat]? with
 | some x => (x.ps, 0)
 | none => ([], 0)
theorem getOf_none {g : GraphD} {n : Int} (h : atOf g.nodes n < 0) : getOf g n = ([], 2) := by unfold getOf; rw [if_pos h]
theorem getOf_some {g : GraphD} {n : Int} {i : Nat} {x : NodeD} (h : atOf g.nodes n = (i : Int)) (hx : g.nodes[i]? = some x) : getOf g n = (x.ps, 0) := by
 unfold getOf
 rw [h, if_neg (by omega), Int.toNat_natCast, hx]
set_option maxRecDepth 20000 in
set_option maxHeartbeats 4000000 in
theorem get_calls (w : World) (S : Nat → Prop) (g : GraphD) (vn ve : Value) (n : Int) (h : Gr w S g vn ve) (hs : g.small) : Calls Tryz.prog 102 #[.agg #[vn, ve, .int .i64 g.nn, .int .i64 g.ne], .int .i64 n] w fun e w' => ∃ v, e = .returned (.tuple #[v, .int .i64 (getOf g n).2]) ∧ Own tP 92 w' (fun k => w.heap.size ≤ k) v (getOf g n).1 ∧ Below w.heap.size w w' := by
 obtain ⟨⟨A1, c1, rfl⟩, ⟨A2, c2, rfl⟩⟩ := h.slices
 have HS := Lib.hid hs
 have hs1 := hs.1
 have H0 := Lib.hid (h.below (Below.heap1 w (.cells #[.slice A1 g.nodes.length c1, .slice A2 g.edges.length c2, .int .i64 g.nn, .int .i64 g.ne] 31)))
 have BX0 := Lib.hid (Box4.made w 31 (.slice A1 g.nodes.length c1) (.slice A2 g.edges.length c2) (.int .i64 g.nn) (.int .i64 g.ne))
 clear h hs
 go_enter Tryz.func102, Tryz.ntmps102
 go_wp2_with fail
 refine (at_calls _ S g _ _ n H0.out hs1).mono ?_
 rintro e w1 ⟨rfl, hb1⟩
 have s1 := hb1.size
 have K1 := Lib.hid ((Below.heap1 w (.cells #[.slice A1 g.nodes.length c1, .slice A2 g.edges.length c2, .int .i64 g.nn, .int .i64 g.ne] 31)).trans (hb1.mono (by simp)))
 have BX1 := Lib.hid (BX0.out.keep (hb1.block _ (by simp)))
 have H1 := Lib.hid (H0.out.below hb1)
 clear hb1 BX0 H0
 simp only [World.size_alloc] at s1
 by_cases ha : atOf g.nodes n < 0
 ·
  have HE := Lib.hid (getOf_none ha)
  have hd : decide (atOf g.nodes n < 0) = true := decide_eq_true ha
  clear ha
  generalize atOf g.nodes n = p at *
  go_wp2
  refine bodyPost_ret (v := .tuple #[.slice none 0 0, .int .i64 2]) (by simp [results, Tryz.results102, go_sem]; try rfl) rfl ?_
  rw [HE.out]
  exact ⟨_, rfl, Own.nil _ _ _ _, K1.out⟩
 obtain ⟨i, x, hi, hx, _⟩ := atOf_at ha
 have HE := Lib.hid (getOf_some hi hx)
 rw [hi]
 have hil : i < g.nodes.length := (List.getElem?_eq_some_iff.1 hx).1
 obtain ⟨bn, on, ap, dp, rfl, _, hbl, hr, z0, z1⟩ := H1.out.atN hx
 have hpx := HS.out.2.2 x (List.mem_of_getElem? hx)
 have HRP := Lib.hid hr
 obtain ⟨x0, x1, x2, x3, xf⟩ := BX1.out
 clear ha hi hx hr
 go_wp2_with fail
 refine (clonePairs_calls _ S _ _ HRP.out hpx).mono ?_
 rintro e w2 ⟨v2, rfl, ho2, hb2⟩
 have HO2 := Lib.hid (ho2.mono fun k hk _ => (by omega : w.heap.size ≤ k))
 have K2 := Lib.hid (K1.out.trans (hb2.mono (by omega)))
 clear ho2 hb2
 go_wp2
 refine bodyPost_ret (v := .tuple #[v2, .int .i64 0]) (by simp [results, Tryz.results102, go_sem]; try rfl) rfl ?_
 rw [HE.out]
 exact ⟨_, rfl, HO2.out, K2.out⟩
/-- Whether a node has a property. -/
def Has (g : GraphD) (n k : Int) : Prop := ∃ (i : Nat) (x : NodeD) (p : P2), atOf g.nodes n = (i : Int) ∧ g.nodes[i]? = some x ∧ p ∈ x.ps ∧ p.x = k
set_option maxRecDepth 20000 in
set_option maxHeartbeats 4000000 in
theorem has_calls (w : World) (S : Nat → Prop) (g : GraphD) (vn ve : Value) (n k : Int) (h : Gr w S g vn ve) (hs : g.small) : Calls Tryz.prog 107 #[.agg #[vn, ve, .int .i64 g.nn, .int .i64 g.ne], .int .i64 n, .int .i64 k] w fun e w' => ∃ b : Bool, e = .returned (.bool b) ∧ (b = true ↔ Has g n k) ∧ Below w.heap.size w w' := by
 obtain ⟨⟨A1, c1, rfl⟩, ⟨A2, c2, rfl⟩⟩ := h.slices
 have HS := Lib.hid hs
 have hs1 := hs.1
 have H0 := Lib.hid (h.below (Below.heap1 w (.cells #[.slice A1 g.nodes.length c1, .slice A2 g.edges.length c2, .int .i64 g.nn, .int .i64 g.ne] 31)))
 have BX0 := Lib.hid (Box4.made w 31 (.slice A1 g.nodes.length c1) (.slice A2 g.edges.length c2) (.int .i64 g.nn) (.int .i64 g.ne))
 clear h hs
 go_enter Tryz.func107, Tryz.ntmps107
 go_wp2_with fail
 refine (refAt_calls _ S g _ _ n H0.out hs1).mono ?_
 rintro e w1 ⟨rfl, hb1⟩
 have s1 := hb1.size
 have K1 := Lib.hid ((Below.heap1 w (.cells #[.slice A1 g.nodes.length c1, .slice A2 g.edges.length c2, .int .i64 g.nn, .int .i64 g.ne] 31)).trans (hb1.mono (by simp)))
 have BX1 := Lib.hid (BX0.out.keep (hb1.block _ (by simp)))
 have H1 := Lib.hid (H0.out.below hb1)
 clear hb1 BX0 H0
 simp only [World.size_alloc] at s1
 by_cases ha : atOf g.nodes n < 0
 ·
  have HE := Lib.hid (show ¬ Has g n k from fun ⟨i, x, p, hi, _⟩ => by omega)
  have hd : decide (0 ≤ atOf g.nodes n) = false := decide_eq_false (by omega)
  clear ha
  generalize atOf g.nodes n = p at *
  go_wp2
  go_ret
  exact ⟨false, rfl, ⟨fun e => (by cases e), fun h => absurd h HE.out⟩, K1.out⟩
 obtain ⟨i, x, hi, hx, _⟩ := atOf_at ha
 have HI := Lib.hid hi
 have HX := Lib.hid hx
 rw [hi]
 have hil : i < g.nodes.length := (List.getElem?_eq_some_iff.1 hx).1
 obtain ⟨bn, on, ap, dp, rfl, _, hbl, hr, z0, z1⟩ := H1.out.atN hx
 have hpx := HS.out.2.2 x (List.mem_of_getElem? hx)
 have HRP := Lib.hid hr
 obtain ⟨x0, x1, x2, x3, xf⟩ := BX1.out
 clear ha hi hx hr
 go_wp2
 clear x0 x1 x2 x3 xf z0 z1
 go_loopw [22] (fun q wr => ∃ j : Nat, j ≤ x.ps.length ∧ q = .int .i64 (j : Int) ∧ Hid (∀ (m : Nat) (p : P2), m < j → x.ps[m]? = some p → p.x ≠ k) ∧ Hid (Below w1.heap.size w1 wr)) (fun q _ => x.ps.length - (intOf q).toNat)
 case atStart => exact ⟨0, by omega, rfl, (fun m p h => by omega), Below.refl _ _⟩
 case round =>
  obtain ⟨wa, rfl⟩ : ∃ wa, wa = wr := ⟨wr, rfl⟩
  obtain ⟨j, hj, rfl, hno, hb⟩ := hrel
  have hwr := hb.out.size
  have KA := Lib.hid (K1.out.trans (hb.out.mono (by omega)))
  by_cases hlt : j < x.ps.length
  ·
   obtain ⟨p, hp⟩ := getElem?_of_lt hlt
   obtain ⟨b, off, hAp, _, hbl2, y0, y1⟩ := (HRP.out.below hb.out).atP hp
   have HP := Lib.hid hp
   subst hAp
   clear hp
   have g1 : wa.heap.size < wa.heap.size + 1 := by omega
   have g2 : b < wa.heap.size + 1 := by omega
   by_cases hk : p.x = k
   ·
    have HH := Lib.hid (show Has g n k from ⟨i, x, p, HI.out, HX.out, List.mem_of_getElem? HP.out, hk⟩)
    replace hk : (p.x == k) = true := beq_iff_eq.mpr hk
    go_wp2
    go_ret
    exact ⟨true, rfl, ⟨fun _ => HH.out, fun _ => rfl⟩, KA.out.alloc (by have := KA.out.size; omega) _⟩
   ·
    have HN := Lib.hid (show ∀ (m : Nat) (q : P2), m < j + 1 → x.ps[m]? = some q → q.x ≠ k from fun m q hm hq => by
     rcases Nat.lt_or_ge m j with h3 | h3
     ·
      exact hno.out m q h3 hq
     ·
      obtain rfl : m = j := by omega
      rw [HP.out] at hq
      injection hq with hq
      subst hq
      exact hk)
    replace hk : (p.x == k) = false := beq_eq_false_iff_ne.mpr hk
    go_wp2
    go_roundw
    case rel => exact ⟨j + 1, by omega, by first | (go_num; done) | (go_num; omega), HN, Lib.hid (hb.out.alloc (by omega) _)⟩
    case measure => simp [intOf]; omega
  ·
   have HN := Lib.hid (show ¬ Has g n k from fun ⟨i', x', p, hi', hx', hp, hpk⟩ => by
    have e : i' = i := by have := HI.out; omega
    subst e
    rw [HX.out] at hx'
    injection hx' with hx'
    subst hx'
    obtain ⟨m, hm⟩ := List.mem_iff_getElem?.1 hp
    exact hno.out m p (by have := (List.getElem?_eq_some_iff.1 hm).1; omega) hm hpk)
   obtain rfl : j = x.ps.length := by omega
   go_wp2
   go_ret
   exact ⟨false, rfl, ⟨fun e => (by cases e), fun h => absurd h HN.out⟩, KA.out⟩
end Go.Proofs.YtpehmmdbjakkpaaGreat
namespace Go.Proofs.YtpehmmdbjakkpaaGreat
open Go.RowKit Go.Shelf
set_option linter.unusedSimpArgs false
set_option linter.unusedVariables false
/-- A graph and an error, handed back. -/
def Ret2 (w : World) (r : GraphD × Int) (e : Ending) (w' : World) : Prop := ∃ vn ve, e = .returned (.tuple #[.agg #[vn, ve, .int .i64 r.1.nn, .int .i64 r.1.ne], .int .i64 r.2]) ∧ Gr w' (fun k => w.heap.size ≤ k) r.1 vn ve ∧ Below w.heap.size w w'
def cutOf (g : GraphD) (n : Int) : GraphD × Int := if (g.edges.filter fun x => !(x.id == n)).length = g.edges.length then (GraphD.zero, 2) else (⟨g.nodes, g.edges.filter fun x => !(x.id == n), g.nn, g.ne⟩, 0)
set_option maxRecDepth 20000 in
set_option maxHeartbeats 8000000 in
theorem cut_calls (w : World) (S : Nat → Prop) (g : GraphD) (vn ve : Value) (n : Int) (h : Gr w S g vn ve) (hs : g.small) : Calls Tryz.prog 91 #[.agg #[vn, ve, .int .i64 g.nn, .int .i64 g.ne], .int .i64 n] w (Ret2 w (cutOf g n)) := by
 obtain ⟨⟨A1, c1, rfl⟩, ⟨A2, c2, rfl⟩⟩ := h.slices
 have HS := Lib.hid hs
 have hs1 := hs.1
 have hs2 := hs.2.1
 have hW0 : Below w.heap.size w (((w.alloc (.cells #[.slice A1 g.nodes.length c1, .slice A2 g.edges.length c2, .int .i64 g.nn, .int .i64 g.ne] 31)).alloc (.cells #[.int .i64 n] 3)).alloc (.cells #[.slice none 0 0, .slice none 0 0, .int .i64 0, .int .i64 0] 31)) := (((Below.refl w.heap.size w).alloc (Nat.le_refl _) _).alloc (by simp) _).alloc (by simp; omega) _
 have KW := Lib.hid hW0
 have BX := Lib.hid ((Box4.made w 31 (.slice A1 g.nodes.length c1) (.slice A2 g.edges.length c2) (.int .i64 g.nn) (.int .i64 g.ne)).keep (W' := (((w.alloc (.cells #[.slice A1 g.nodes.length c1, .slice A2 g.edges.length c2, .int .i64 g.nn, .int .i64 g.ne] 31)).alloc (.cells #[.int .i64 n] 3)).alloc (.cells #[.slice none 0 0, .slice none 0 0, .int .i64 0, .int .i64 0] 31))) (by rw [Below.heap_alloc _ _ _ (by simp; omega), Below.heap_alloc _ _ _ (by simp)]))
 have BR := Lib.hid (Box4.made ((w.alloc (.cells #[.slice A1 g.nodes.length c1, .slice A2 g.edges.length c2, .int .i64 g.nn, .int .i64 g.ne] 31)).alloc (.cells #[.int .i64 n] 3)) 31 (.slice none 0 0) (.slice none 0 0) (.int .i64 0) (.int .i64 0))
 have CB := Lib.hid (show (((w.alloc (.cells #[.slice A1 g.nodes.length c1, .slice A2 g.edges.length c2, .int .i64 g.nn, .int .i64 g.ne] 31)).alloc (.cells #[.int .i64 n] 3)).alloc (.cells #[.slice none 0 0, .slice none 0 0, .int .i64 0, .int .i64 0] 31)).cell? ⟨w.heap.size + 1, 0, none⟩ = some (.int .i64 n) by simp [go_sem])
 have H0 := Lib.hid (h.below hW0)
 clear hW0 h hs
 simp only [World.size_alloc] at BR
 go_enter Tryz.func91, Tryz.ntmps91
 go_wp2_with fail
 refine (own_calls _ S g _ _ H0.out HS.out).mono ?_
 rintro e w1 ⟨vn1, ve1, nvs, rfl, ho1, hb1⟩
 obtain ⟨⟨B1, d1, rfl⟩, ⟨B2, d2, rfl⟩⟩ := ho1.gr.slices
 have s1 := hb1.size
 have K1 := Lib.hid (KW.out.trans (hb1.mono (by simp <;> omega)))
 have BX1 := Lib.hid (BX.out.keep (hb1.block w.heap.size (by simp <;> omega)))
 have BR1 := Lib.hid (BR.out.keep (hb1.block (w.heap.size + 1 + 1) (by simp <;> omega)))
 have CB1 := Lib.hid ((hb1.cell (p := ⟨w.heap.size + 1, 0, none⟩) (by simp <;> omega)).trans CB.out)
 have HO1 := Lib.hid ho1
 clear hb1 ho1 BX BR CB KW H0
 simp only [World.size_alloc] at s1 HO1
 have g1 : w.heap.size < w1.heap.size := by omega
 have g2 : w.heap.size + 1 < w1.heap.size := by omega
 have g3 : w.heap.size + 1 + 1 < w1.heap.size := by omega
 obtain ⟨x0, x1, x2, x3, xf⟩ := BX1.out
 go_wp2_with fail
 obtain ⟨W1, hW⟩ : ∃ W1, W1 = set4 w1 w.heap.size (.slice B1 g.nodes.length d1) (.slice B2 g.edges.length d2) (.int .i64 g.nn) (.int .i64 g.ne) := ⟨_, rfl⟩
 have BW := Lib.hid (show Box4 W1 w.heap.size (.slice B1 g.nodes.length d1) (.slice B2 g.edges.length d2) (.int .i64 g.nn) (.int .i64 g.ne) by rw [hW]; exact BX1.out.set _ _ _ _)
 have BQ := Lib.hid (show Box4 W1 (w.heap.size + 1 + 1) (.slice none 0 0) (.slice none 0 0) (.int .i64 0) (.int .i64 0) by rw [hW]; exact BR1.out.other4 (by omega) _ _ _ _)
 have CW := Lib.hid (show W1.cell? ⟨w.heap.size + 1, 0, none⟩ = some (.int .i64 n) by rw [hW]; exact (World.cell?_of_block (set4_heap w1 w.heap.size _ _ _ _ (w.heap.size + 1) (by omega))).trans CB1.out)
 have KW1 := Lib.hid (show Below w.heap.size w W1 by rw [hW]; exact set4_below K1.out (Nat.le_refl _) _ _ _ _)
 have sW : W1.heap.size = w1.heap.size := by rw [hW, set4_size]
 have HOW := Lib.hid (HO1.out.move (w' := W1) fun k hk _ => by rw [hW]; exact set4_heap _ _ _ _ _ _ k (by omega))
 unfold set4 at hW
 rw [← hW]
 clear hW x0 x1 x2 x3 xf BX1 BR1 CB1 K1 HO1
 refine (withoutE_calls W1 _ (fun k => k = w.heap.size + 1) _ g.edges _ _ (fun x => x.id == n) cutC_enters (fun W x hK => ?_) HOW.out.edges.row (by intro k hk; have h9 : k = w.heap.size + 1 := hk; omega) hs2).mono ?_
 ·
  refine cutC_calls W x n (w.heap.size + 1) (by have := hK.1; omega) ?_
  rw [hK.cell _ _ rfl (by omega)]
  exact CW.out
 rintro e w2 ⟨v2, rfl, ho2, hb2⟩
 obtain ⟨B3, d3, rfl⟩ := ho2.slice
 have s2 := hb2.size
 have K2 := Lib.hid (KW1.out.trans (hb2.mono (by omega)))
 have BX2 := Lib.hid (BW.out.keep (hb2.block w.heap.size (by omega)))
 have BR2 := Lib.hid (BQ.out.keep (hb2.block (w.heap.size + 1 + 1) (by omega)))
 have HO2 := Lib.hid ho2
 have HOB := Lib.hid (HOW.out.below hb2)
 clear ho2 hb2 BW BQ HOW CW KW1
 obtain ⟨l, hl⟩ : ∃ l, l = g.edges.filter (fun x => !(x.id == n)) := ⟨_, rfl⟩
 have HL := Lib.hid hl
 rw [← hl] at HO2 ⊢
 clear hl
 obtain ⟨x0, x1, x2, x3, xf⟩ := BX2.out
 obtain ⟨y0, y1, y2, y3, yf⟩ := BR2.out
 have hbl : ∀ k, k ≠ w.heap.size → ∀ u, (w2.setCell ⟨w.heap.size, 1, none⟩ u).heap[k]? = w2.heap[k]? := fun k hk u => Below.heap_setCell _ ⟨w.heap.size, 1, none⟩ _ k hk
 have HBL := Lib.hid hbl
 clear hbl
 by_cases hlen : l.length = g.edges.length
 ·
  have HE := Lib.hid (show cutOf g n = (GraphD.zero, 2) by unfold cutOf; rw [← HL.out, if_pos hlen])
  replace hlen : ((l.length : Int) == (g.edges.length : Int)) = true := beq_iff_eq.mpr (by omega)
  go_wp2
  refine bodyPost_ret (v := .tuple #[.agg #[.slice none 0 0, .slice none 0 0, .int .i64 0, .int .i64 0], .int .i64 2]) (by simp [results, Tryz.results91, go_sem, y0, y1, y2, y3]; try rfl) rfl ?_
  rw [HE.out]
  exact ⟨_, _, rfl, Gr.zero _ _ _ _, set4_below (K2.out.setCell (p := ⟨w.heap.size, 1, none⟩) (Nat.le_refl _) _) (by omega) _ _ _ _⟩
 ·
  have HE := Lib.hid (show cutOf g n = (⟨g.nodes, l, g.nn, g.ne⟩, 0) by unfold cutOf; rw [← HL.out, if_neg hlen])
  replace hlen : ((l.length : Int) == (g.edges.length : Int)) = false := beq_eq_false_iff_ne.mpr (by omega)
  go_wp2
  have hSm : Same (fun k => w.heap.size + 1 + 1 + 1 ≤ k) w2 (set4 (w2.setCell ⟨w.heap.size, 1, none⟩ (.slice B3 l.length d3)) (w.heap.size + 1 + 1) (.slice B1 g.nodes.length d1) (.slice B3 l.length d3) (.int .i64 g.nn) (.int .i64 g.ne)) := fun k hk _ => by
   rw [set4_heap _ _ _ _ _ _ k (by omega), HBL.out k (by omega)]
  refine bodyPost_ret (v := .tuple #[.agg #[.slice B1 g.nodes.length d1, .slice B3 l.length d3, .int .i64 g.nn, .int .i64 g.ne], .int .i64 0]) (by simp [results, Tryz.results91, go_sem, x0, x1, x2, x3, y0, y1, y2, y3]; try rfl) rfl ?_
  rw [HE.out]
  refine ⟨_, _, rfl, Gr.mono (S := fun k => w.heap.size + 1 + 1 + 1 ≤ k) (Gr.move (w := w2) ⟨HOB.out.gr.1, (HO2.out.mono fun k hk _ => (by omega : w.heap.size + 1 + 1 + 1 ≤ k)).row⟩ hSm) (fun k hk _ => by omega), ?_⟩
  exact set4_below (K2.out.setCell (p := ⟨w.heap.size, 1, none⟩) (Nat.le_refl _) _) (by omega) _ _ _ _
end Go.Proofs.YtpehmmdbjakkpaaGreat
namespace Go.Proofs.YtpehmmdbjakkpaaGreat
open Go.RowKit Go.Shelf
set_option linter.unusedSimpArgs false
set_option linter.unusedVariables false
def dropOf (g : GraphD) (n : Int) : GraphD × Int := if atOf g.nodes n < 0 then (GraphD.zero, 2) else (⟨g.nodes.filter fun x => !(x.id == n), g.edges.filter fun x => !(x.frm == n || x.to == n), g.nn, g.ne⟩, 0)
set_option maxRecDepth 20000 in
set_option maxHeartbeats 8000000 in
theorem drop_calls (w : World) (S : Nat → Prop) (g : GraphD) (vn ve : Value) (n : Int) (h : Gr w S g vn ve) (hs : g.small) : Calls Tryz.prog 97 #[.agg #[vn, ve, .int .i64 g.nn, .int .i64 g.ne], .int .i64 n] w (Ret2 w (dropOf g n)) := by
 obtain ⟨⟨A1, c1, rfl⟩, ⟨A2, c2, rfl⟩⟩ := h.slices
 have HS := Lib.hid hs
 have hs1 := hs.1
 have hs2 := hs.2.1
 have hW0 : Below w.heap.size w (((w.alloc (.cells #[.slice A1 g.nodes.length c1, .slice A2 g.edges.length c2, .int .i64 g.nn, .int .i64 g.ne] 31)).alloc (.cells #[.int .i64 n] 3)).alloc (.cells #[.slice none 0 0, .slice none 0 0, .int .i64 0, .int .i64 0] 31)) := (((Below.refl w.heap.size w).alloc (Nat.le_refl _) _).alloc (by simp) _).alloc (by simp; omega) _
 have KW := Lib.hid hW0
 have BX := Lib.hid ((Box4.made w 31 (.slice A1 g.nodes.length c1) (.slice A2 g.edges.length c2) (.int .i64 g.nn) (.int .i64 g.ne)).keep (W' := (((w.alloc (.cells #[.slice A1 g.nodes.length c1, .slice A2 g.edges.length c2, .int .i64 g.nn, .int .i64 g.ne] 31)).alloc (.cells #[.int .i64 n] 3)).alloc (.cells #[.slice none 0 0, .slice none 0 0, .int .i64 0, .int .i64 0] 31))) (by rw [Below.heap_alloc _ _ _ (by simp; omega), Below.heap_alloc _ _ _ (by simp)]))
 have BR := Lib.hid (Box4.made ((w.alloc (.cells #[.slice A1 g.nodes.length c1, .slice A2 g.edges.length c2, .int .i64 g.nn, .int .i64 g.ne] 31)).alloc (.cells #[.int .i64 n] 3)) 31 (.slice none 0 0) (.slice none 0 0) (.int .i64 0) (.int .i64 0))
 have CB := Lib.hid (show (((w.alloc (.cells #[.slice A1 g.nodes.length c1, .slice A2 g.edges.length c2, .int .i64 g.nn, .int .i64 g.ne] 31)).alloc (.cells #[.int .i64 n] 3)).alloc (.cells #[.slice none 0 0, .slice none 0 0, .int .i64 0, .int .i64 0] 31)).cell? ⟨w.heap.size + 1, 0, none⟩ = some (.int .i64 n) by simp [go_sem])
 have H0 := Lib.hid (h.below hW0)
 clear hW0 h hs
 simp only [World.size_alloc] at BR
 go_enter Tryz.func97, Tryz.ntmps97
 go_wp2_with fail
 refine (at_calls _ S g _ _ n H0.out hs1).mono ?_
 rintro e w1 ⟨rfl, hb1⟩
 have s1 := hb1.size
 have K1 := Lib.hid (KW.out.trans (hb1.mono (by simp <;> omega)))
 have BX1 := Lib.hid (BX.out.keep (hb1.block w.heap.size (by simp <;> omega)))
 have BR1 := Lib.hid (BR.out.keep (hb1.block (w.heap.size + 1 + 1) (by simp <;> omega)))
 have CB1 := Lib.hid ((hb1.cell (p := ⟨w.heap.size + 1, 0, none⟩) (by simp <;> omega)).trans CB.out)
 have H1 := Lib.hid (H0.out.below hb1)
 clear hb1 BX BR CB KW H0
 simp only [World.size_alloc] at s1
 have g1 : w.heap.size < w1.heap.size := by omega
 have g2 : w.heap.size + 1 < w1.heap.size := by omega
 have g3 : w.heap.size + 1 + 1 < w1.heap.size := by omega
 by_cases ha : atOf g.nodes n < 0
 ·
  have HE := Lib.hid (show dropOf g n = (GraphD.zero, 2) by unfold dropOf; rw [if_pos ha])
  have hd : decide (atOf g.nodes n < 0) = true := decide_eq_true ha
  clear ha
  generalize atOf g.nodes n = p at *
  obtain ⟨y0, y1, y2, y3, yf⟩ := BR1.out
  go_wp2
  refine bodyPost_ret (v := .tuple #[.agg #[.slice none 0 0, .slice none 0 0, .int .i64 0, .int .i64 0], .int .i64 2]) (by simp [results, Tryz.results97, go_sem, y0, y1, y2, y3]; try rfl) rfl ?_
  rw [HE.out]
  exact ⟨_, _, rfl, Gr.zero _ _ _ _, set4_below K1.out (by omega) _ _ _ _⟩
 have HE := Lib.hid (show dropOf g n = (⟨g.nodes.filter fun x => !(x.id == n), g.edges.filter fun x => !(x.frm == n || x.to == n), g.nn, g.ne⟩, 0) by unfold dropOf; rw [if_neg ha])
 have hd : decide (atOf g.nodes n < 0) = false := decide_eq_false ha
 clear ha
 generalize atOf g.nodes n = p at *
 obtain ⟨x0, x1, x2, x3, xf⟩ := BX1.out
 go_wp2_with fail
 refine (own_calls _ S g _ _ H1.out HS.out).mono ?_
 rintro e w3 ⟨vn1, ve1, nvs, rfl, ho1, hb3⟩
 obtain ⟨⟨B1, d1, rfl⟩, ⟨B2, d2, rfl⟩⟩ := ho1.gr.slices
 have s3 := hb3.size
 have K3 := Lib.hid (K1.out.trans (hb3.mono (by omega)))
 have BX3 := Lib.hid (BX1.out.keep (hb3.block w.heap.size g1))
 have BR3 := Lib.hid (BR1.out.keep (hb3.block (w.heap.size + 1 + 1) g3))
 have CB3 := Lib.hid ((hb3.cell (p := ⟨w.heap.size + 1, 0, none⟩) g2).trans CB1.out)
 have HO1 := Lib.hid ho1
 clear hb3 ho1 BX1 BR1 CB1 K1 x0 x1 x2 x3 xf hd
 obtain ⟨x0, x1, x2, x3, xf⟩ := BX3.out
 go_wp2_with fail
 obtain ⟨W1, hW⟩ : ∃ W1, W1 = set4 w3 w.heap.size (.slice B1 g.nodes.length d1) (.slice B2 g.edges.length d2) (.int .i64 g.nn) (.int .i64 g.ne) := ⟨_, rfl⟩
 have BW := Lib.hid (show Box4 W1 w.heap.size (.slice B1 g.nodes.length d1) (.slice B2 g.edges.length d2) (.int .i64 g.nn) (.int .i64 g.ne) by rw [hW]; exact BX3.out.set _ _ _ _)
 have BQ := Lib.hid (show Box4 W1 (w.heap.size + 1 + 1) (.slice none 0 0) (.slice none 0 0) (.int .i64 0) (.int .i64 0) by rw [hW]; exact BR3.out.other4 (by omega) _ _ _ _)
 have CW := Lib.hid (show W1.cell? ⟨w.heap.size + 1, 0, none⟩ = some (.int .i64 n) by rw [hW]; exact (World.cell?_of_block (set4_heap w3 w.heap.size _ _ _ _ (w.heap.size + 1) (by omega))).trans CB3.out)
 have KW1 := Lib.hid (show Below w.heap.size w W1 by rw [hW]; exact set4_below K3.out (Nat.le_refl _) _ _ _ _)
 have sW : W1.heap.size = w3.heap.size := by rw [hW, set4_size]
 have HOW := Lib.hid (HO1.out.move (w' := W1) fun k hk _ => by rw [hW]; exact set4_heap _ _ _ _ _ _ k (by omega))
 have HNL := Lib.hid HO1.out.len
 unfold set4 at hW
 rw [← hW]
 clear hW x0 x1 x2 x3 xf BX3 BR3 CB3 K3 HO1
 refine (withoutN_calls W1 _ (fun k => k = w.heap.size + 1) _ nvs _ _ (fun v => v.id == n) dropNC_enters (fun W x hK => ?_) HOW.out.nodes.row (by intro k hk; have h9 : k = w.heap.size + 1 := hk; omega) (by rw [HNL.out]; exact hs1)).mono ?_
 ·
  refine dropNC_calls W x n (w.heap.size + 1) (by have := hK.1; omega) ?_
  rw [hK.cell _ _ rfl (by omega)]
  exact CW.out
 rintro e w5 ⟨v5, rfl, ho5, hb5⟩
 obtain ⟨B5, d5, rfl⟩ := ho5.slice
 have s5 := hb5.size
 have K5 := Lib.hid (KW1.out.trans (hb5.mono (by omega)))
 have BX5 := Lib.hid (BW.out.keep (hb5.block w.heap.size (by omega)))
 have BR5 := Lib.hid (BQ.out.keep (hb5.block (w.heap.size + 1 + 1) (by omega)))
 have CB5 := Lib.hid ((hb5.cell (p := ⟨w.heap.size + 1, 0, none⟩) (by simp only; omega)).trans CW.out)
 have HN5 := Lib.hid ho5
 have HOB := Lib.hid (HOW.out.below hb5)
 clear ho5 hb5 BW BQ HOW CW KW1
 obtain ⟨l, hl⟩ : ∃ l, l = nvs.filter (fun v => !(v.id == n)) := ⟨_, rfl⟩
 have HL := Lib.hid hl
 rw [← hl] at HN5 ⊢
 clear hl
 obtain ⟨x0, x1, x2, x3, xf⟩ := BX5.out
 have g4 : w.heap.size < w5.heap.size := by omega
 have BX6 := Lib.hid (BX5.out.set0 (.slice B5 l.length d5))
 have BR6 := Lib.hid (BR5.out.other (b' := w.heap.size) (by omega) 0 (.slice B5 l.length d5))
 have CB6 := Lib.hid ((World.cell?_of_block (Below.heap_setCell w5 ⟨w.heap.size, 0, none⟩ (.slice B5 l.length d5) (w.heap.size + 1) (by simp))).trans CB5.out)
 have K6 := Lib.hid (K5.out.setCell (p := ⟨w.heap.size, 0, none⟩) (Nat.le_refl _) (.slice B5 l.length d5))
 have hSa : Same (fun k => w1.heap.size ≤ k) w5 (w5.setCell ⟨w.heap.size, 0, none⟩ (.slice B5 l.length d5)) := Same.of_setCell _ _ _ (fun k hk => by simp only; omega)
 have HO6 := Lib.hid (HOB.out.move hSa)
 have HN6 := Lib.hid ((HN5.out.mono fun k hk _ => (by omega : w1.heap.size ≤ k)).move hSa)
 clear hSa BX5 BR5 CB5 HN5 HOB K5
 go_wp2_with fail
 obtain ⟨W6, hW⟩ : ∃ W6, W6 = w5.setCell ⟨w.heap.size, 0, none⟩ (.slice B5 l.length d5) := ⟨_, rfl⟩
 have sW6 : W6.heap.size = w5.heap.size := by rw [hW, World.size_setCell]
 rw [← hW] at BX6 BR6 CB6 K6 HO6 HN6 ⊢
 clear hW x0 x1 x2 x3 xf
 refine (withoutE_calls W6 _ (fun k => k = w.heap.size + 1) _ g.edges _ _ (fun x => x.frm == n || x.to == n) dropEC_enters (fun W x hK => ?_) HO6.out.edges.row (by intro k hk; have h9 : k = w.heap.size + 1 := hk; omega) hs2).mono ?_
 ·
  refine dropEC_calls W x n (w.heap.size + 1) (by have := hK.1; omega) ?_
  rw [hK.cell _ _ rfl (by omega)]
  exact CB6.out
 rintro e w7 ⟨v7, rfl, ho7, hb7⟩
 obtain ⟨B7, d7, rfl⟩ := ho7.slice
 have s7 := hb7.size
 have K7 := Lib.hid (K6.out.trans (hb7.mono (by omega)))
 have BX7 := Lib.hid (BX6.out.keep (hb7.block w.heap.size (by omega)))
 have BR7 := Lib.hid (BR6.out.keep (hb7.block (w.heap.size + 1 + 1) (by omega)))
 have HO7 := Lib.hid (ho7.mono fun k hk _ => (by omega : w1.heap.size ≤ k))
 have HN7 := Lib.hid (HN6.out.below hb7)
 have HP7 := Lib.hid (show NVs w7 (fun k => w1.heap.size ≤ k) l (g.nodes.filter fun x => !(x.id == n)) by
  rw [HL.out]
  have h9 : NVs W6 (fun k => w1.heap.size ≤ k) nvs g.nodes := ⟨HO6.out.len, fun j v x hv hx => ⟨(HO6.out.each j v x hv hx).1, (HO6.out.each j v x hv hx).2.row⟩⟩
  exact (h9.filter n).below hb7)
 clear ho7 hb7 BX6 BR6 CB6 K6 HO6 HN6
 obtain ⟨m, hm⟩ : ∃ m, m = g.edges.filter (fun x => !(x.frm == n || x.to == n)) := ⟨_, rfl⟩
 rw [← hm] at HO7 HE ⊢
 clear hm
 obtain ⟨x0, x1, x2, x3, xf⟩ := BX7.out
 obtain ⟨y0, y1, y2, y3, yf⟩ := BR7.out
 go_wp2
 have hSm : Same (fun k => w1.heap.size ≤ k) w7 (set4 (w7.setCell ⟨w.heap.size, 1, none⟩ (.slice B7 m.length d7)) (w.heap.size + 1 + 1) (.slice B5 l.length d5) (.slice B7 m.length d7) (.int .i64 g.nn) (.int .i64 g.ne)) := fun k hk _ => by
  have h1 : k ≠ w.heap.size := by omega
  rw [set4_heap _ _ _ _ _ _ k (by omega), Below.heap_setCell _ ⟨w.heap.size, 1, none⟩ _ k h1]
 refine bodyPost_ret (v := .tuple #[.agg #[.slice B5 l.length d5, .slice B7 m.length d7, .int .i64 g.nn, .int .i64 g.ne], .int .i64 0]) (by simp [results, Tryz.results97, go_sem, x0, x1, x2, x3, y0, y1, y2, y3]; try rfl) rfl ?_
 rw [HE.out]
 refine ⟨_, _, rfl, Gr.mono (S := fun k => w1.heap.size ≤ k) (Gr.move (w := w7) ⟨⟨l, HN7.out.row, HP7.out⟩, HO7.out.row⟩ hSm) (fun k hk _ => by omega), ?_⟩
 exact set4_below (K7.out.setCell (p := ⟨w.heap.size, 1, none⟩) (Nat.le_refl _) _) (by omega) _ _ _ _
end Go.Proofs.YtpehmmdbjakkpaaGreat

