/- graph.Get, and the reference's Has. -/
import Derived.Test.YtpehmmdbjakkpaaFindG
namespace Go.Proofs.Ytpehmmdbjakkpaa
open Go.RowKit Go.Shelf
set_option linter.unusedSimpArgs false
set_option linter.unusedVariables false
theorem atOf_at {xs : List NodeD} {n : Int} (h : ¬ atOf xs n < 0) : ∃ (i : Nat) (x : NodeD), atOf xs n = (i : Int) ∧ xs[i]? = some x ∧ x.id = n := by
  rcases idxB_cases (fun x : NodeD => x.id == n) xs with ⟨e, _⟩ | ⟨k, x, e, hx, hp, _⟩
  · unfold atOf at h; rw [e] at h; omega
  · exact ⟨k, x, e, hx, by simpa using hp⟩
/-- A node's properties, and whether it is. -/
def getOf (g : GraphD) (n : Int) : List P2 × Int := if atOf g.nodes n < 0 then ([], 2) else match g.nodes[(atOf g.nodes n).toNat]? with
  | some x => (x.ps, 0)
  | none => ([], 0)
theorem getOf_none {g : GraphD} {n : Int} (h : atOf g.nodes n < 0) : getOf g n = ([], 2) := by unfold getOf; rw [if_pos h]
theorem getOf_some {g : GraphD} {n : Int} {i : Nat} {x : NodeD} (h : atOf g.nodes n = (i : Int)) (hx : g.nodes[i]? = some x) : getOf g n = (x.ps, 0) := by
  unfold getOf
  rw [h, if_neg (by omega), Int.toNat_natCast, hx]
set_option maxRecDepth 20000 in
set_option maxHeartbeats 4000000 in
theorem get_calls (w : World) (S : Nat → Prop) (g : GraphD) (vn ve : Value) (n : Int) (h : Gr w S g vn ve) (hs : g.small) : Calls Try.prog 25 #[.agg #[vn, ve, .int .i64 g.nn, .int .i64 g.ne], .int .i64 n] w fun e w' => ∃ v, e = .returned (.tuple #[v, .int .i64 (getOf g n).2]) ∧ Own tP 47 w' (fun k => w.heap.size ≤ k) v (getOf g n).1 ∧ Below w.heap.size w w' := by
  obtain ⟨⟨A1, c1, rfl⟩, ⟨A2, c2, rfl⟩⟩ := h.slices
  have HS := Lib.hid hs
  have hs1 := hs.1
  have H0 := Lib.hid (h.below (Below.heap1 w (.cells #[.slice A1 g.nodes.length c1, .slice A2 g.edges.length c2, .int .i64 g.nn, .int .i64 g.ne] 27)))
  have BX0 := Lib.hid (Box4.made w 27 (.slice A1 g.nodes.length c1) (.slice A2 g.edges.length c2) (.int .i64 g.nn) (.int .i64 g.ne))
  clear h hs
  go_enter Try.func25, Try.ntmps25
  go_wp2_with fail
  refine (at_calls _ S g _ _ n H0.out hs1).mono ?_
  rintro e w1 ⟨rfl, hb1⟩
  have s1 := hb1.size
  have K1 := Lib.hid ((Below.heap1 w (.cells #[.slice A1 g.nodes.length c1, .slice A2 g.edges.length c2, .int .i64 g.nn, .int .i64 g.ne] 27)).trans (hb1.mono (by simp)))
  have BX1 := Lib.hid (BX0.out.keep (hb1.block _ (by simp)))
  have H1 := Lib.hid (H0.out.below hb1)
  clear hb1 BX0 H0
  simp only [World.size_alloc] at s1
  by_cases ha : atOf g.nodes n < 0
  · have HE := Lib.hid (getOf_none ha)
    have hd : decide (atOf g.nodes n < 0) = true := decide_eq_true ha
    clear ha
    generalize atOf g.nodes n = p at *
    go_wp2
    refine bodyPost_ret (v := .tuple #[.slice none 0 0, .int .i64 2]) (by simp [results, Try.results25, go_sem]; try rfl) rfl ?_
    rw [HE.out]
    exact ⟨_, rfl, Own.nil _ _ _ _, K1.out⟩
  obtain ⟨i, x, hi, hx, _⟩ := atOf_at ha
  have HE := Lib.hid (getOf_some hi hx)
  rw [hi]
  have hil : i < g.nodes.length := (List.getElem?_eq_some_iff.1 hx).1
  obtain ⟨bn, on, ap, dp, rfl, _, hbl, hr, z0, z1⟩ := H1.out.atN hx
  have hpx := HS.out.2.2 x (List.mem_of_getElem? hx)
  have HRP := Lib.hid hr
  obtain ⟨x0, x1, x2, x3, xf⟩ := BX1.out
  clear ha hi hx hr
  go_wp2_with fail
  refine (clonePairs_calls _ S _ _ HRP.out hpx).mono ?_
  rintro e w2 ⟨v2, rfl, ho2, hb2⟩
  have HO2 := Lib.hid (ho2.mono fun k hk _ => (by omega : w.heap.size ≤ k))
  have K2 := Lib.hid (K1.out.trans (hb2.mono (by omega)))
  clear ho2 hb2
  go_wp2
  refine bodyPost_ret (v := .tuple #[v2, .int .i64 0]) (by simp [results, Try.results25, go_sem]; try rfl) rfl ?_
  rw [HE.out]
  exact ⟨_, rfl, HO2.out, K2.out⟩
/-- Whether a node has a property. -/
def Has (g : GraphD) (n k : Int) : Prop := ∃ (i : Nat) (x : NodeD) (p : P2), atOf g.nodes n = (i : Int) ∧ g.nodes[i]? = some x ∧ p ∈ x.ps ∧ p.x = k
set_option maxRecDepth 20000 in
set_option maxHeartbeats 4000000 in
theorem has_calls (w : World) (S : Nat → Prop) (g : GraphD) (vn ve : Value) (n k : Int) (h : Gr w S g vn ve) (hs : g.small) : Calls Try.prog 24 #[.agg #[vn, ve, .int .i64 g.nn, .int .i64 g.ne], .int .i64 n, .int .i64 k] w fun e w' => ∃ b : Bool, e = .returned (.bool b) ∧ (b = true ↔ Has g n k) ∧ Below w.heap.size w w' := by
  obtain ⟨⟨A1, c1, rfl⟩, ⟨A2, c2, rfl⟩⟩ := h.slices
  have HS := Lib.hid hs
  have hs1 := hs.1
  have H0 := Lib.hid (h.below (Below.heap1 w (.cells #[.slice A1 g.nodes.length c1, .slice A2 g.edges.length c2, .int .i64 g.nn, .int .i64 g.ne] 27)))
  have BX0 := Lib.hid (Box4.made w 27 (.slice A1 g.nodes.length c1) (.slice A2 g.edges.length c2) (.int .i64 g.nn) (.int .i64 g.ne))
  clear h hs
  go_enter Try.func24, Try.ntmps24
  go_wp2_with fail
  refine (refAt_calls _ S g _ _ n H0.out hs1).mono ?_
  rintro e w1 ⟨rfl, hb1⟩
  have s1 := hb1.size
  have K1 := Lib.hid ((Below.heap1 w (.cells #[.slice A1 g.nodes.length c1, .slice A2 g.edges.length c2, .int .i64 g.nn, .int .i64 g.ne] 27)).trans (hb1.mono (by simp)))
  have BX1 := Lib.hid (BX0.out.keep (hb1.block _ (by simp)))
  have H1 := Lib.hid (H0.out.below hb1)
  clear hb1 BX0 H0
  simp only [World.size_alloc] at s1
  by_cases ha : atOf g.nodes n < 0
  · have HE := Lib.hid (show ¬ Has g n k from fun ⟨i, x, p, hi, _⟩ => by omega)
    have hd : decide (0 ≤ atOf g.nodes n) = false := decide_eq_false (by omega)
    clear ha
    generalize atOf g.nodes n = p at *
    go_wp2
    go_ret
    exact ⟨false, rfl, ⟨fun e => (by cases e), fun h => absurd h HE.out⟩, K1.out⟩
  obtain ⟨i, x, hi, hx, _⟩ := atOf_at ha
  have HI := Lib.hid hi
  have HX := Lib.hid hx
  rw [hi]
  have hil : i < g.nodes.length := (List.getElem?_eq_some_iff.1 hx).1
  obtain ⟨bn, on, ap, dp, rfl, _, hbl, hr, z0, z1⟩ := H1.out.atN hx
  have hpx := HS.out.2.2 x (List.mem_of_getElem? hx)
  have HRP := Lib.hid hr
  obtain ⟨x0, x1, x2, x3, xf⟩ := BX1.out
  clear ha hi hx hr
  go_wp2
  clear x0 x1 x2 x3 xf z0 z1
  go_loopw [22] (fun q wr => ∃ j : Nat, j ≤ x.ps.length ∧ q = .int .i64 (j : Int) ∧ Hid (∀ (m : Nat) (p : P2), m < j → x.ps[m]? = some p → p.x ≠ k) ∧ Hid (Below w1.heap.size w1 wr)) (fun q _ => x.ps.length - (intOf q).toNat)
  case atStart => exact ⟨0, by omega, rfl, (fun m p h => by omega), Below.refl _ _⟩
  case round =>
    obtain ⟨wa, rfl⟩ : ∃ wa, wa = wr := ⟨wr, rfl⟩
    obtain ⟨j, hj, rfl, hno, hb⟩ := hrel
    have hwr := hb.out.size
    have KA := Lib.hid (K1.out.trans (hb.out.mono (by omega)))
    by_cases hlt : j < x.ps.length
    · obtain ⟨p, hp⟩ := getElem?_of_lt hlt
      obtain ⟨b, off, hAp, _, hbl2, y0, y1⟩ := (HRP.out.below hb.out).atP hp
      have HP := Lib.hid hp
      subst hAp
      clear hp
      have g1 : wa.heap.size < wa.heap.size + 1 := by omega
      have g2 : b < wa.heap.size + 1 := by omega
      by_cases hk : p.x = k
      · have HH := Lib.hid (show Has g n k from ⟨i, x, p, HI.out, HX.out, List.mem_of_getElem? HP.out, hk⟩)
        replace hk : (p.x == k) = true := beq_iff_eq.mpr hk
        go_wp2
        go_ret
        exact ⟨true, rfl, ⟨fun _ => HH.out, fun _ => rfl⟩, KA.out.alloc (by have := KA.out.size; omega) _⟩
      · have HN := Lib.hid (show ∀ (m : Nat) (q : P2), m < j + 1 → x.ps[m]? = some q → q.x ≠ k from fun m q hm hq => by
          rcases Nat.lt_or_ge m j with h3 | h3
          · exact hno.out m q h3 hq
          · obtain rfl : m = j := by omega
            rw [HP.out] at hq
            injection hq with hq
            subst hq
            exact hk)
        replace hk : (p.x == k) = false := beq_eq_false_iff_ne.mpr hk
        go_wp2
        go_roundw
        case rel => exact ⟨j + 1, by omega, by first | (go_num; done) | (go_num; omega), HN, Lib.hid (hb.out.alloc (by omega) _)⟩
        case measure => simp [intOf]; omega
    · have HN := Lib.hid (show ¬ Has g n k from fun ⟨i', x', p, hi', hx', hp, hpk⟩ => by
        have e : i' = i := by have := HI.out; omega
        subst e
        rw [HX.out] at hx'
        injection hx' with hx'
        subst hx'
        obtain ⟨m, hm⟩ := List.mem_iff_getElem?.1 hp
        exact hno.out m p (by have := (List.getElem?_eq_some_iff.1 hm).1; omega) hm hpk)
      obtain rfl : j = x.ps.length := by omega
      go_wp2
      go_ret
      exact ⟨false, rfl, ⟨fun e => (by cases e), fun h => absurd h HN.out⟩, KA.out⟩
end Go.Proofs.Ytpehmmdbjakkpaa
