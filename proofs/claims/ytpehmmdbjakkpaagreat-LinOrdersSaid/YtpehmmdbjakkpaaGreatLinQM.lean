/- lin.Order. The laws' own small functions of chapter 13: many, few; hist.Check; tendrilref02.Same. The example of chapter 13 (live). -/
import Derived.Test.YtpehmmdbjakkpaaGreatLinFM
namespace Go.Proofs.YtpehmmdbjakkpaaGreat
open Go.RowKit Go.Shelf
set_option linter.unusedSimpArgs false
set_option linter.unusedVariables false
def OrderPost (w : World) (r : GraphD × Int) (e : Ending) (w' : World) : Prop := ∃ vn ve, e = .returned (.tuple #[.agg #[vn, ve, .int .i64 r.1.nn, .int .i64 r.1.ne], .int .i64 r.2]) ∧ Gr w' (fun k => w.heap.size ≤ k) r.1 vn ve ∧ Below w.heap.size w w'
/-- What stands when k of the order's calls are placed. -/
structure LQ (B bP : Nat) (X : World) (sd : SD) (order : List Int) (k : Nat) (q : PathD) (A : Option Addr) (cO : Nat) (A1 : Option Addr) (n1 k1 : Nat) (A2 : Option Addr) (n2 k2 : Nat) (W : World) : Prop where
 le : k ≤ order.length
 wk : walkF sd PathD.start (order.take k) = some q
 bx : Box6 W bP (.slice A q.order.length cO) (.slice A1 n1 k1) (.slice A2 n2 k2) (.int .i64 q.g.nn) (.int .i64 q.g.ne) (.int .i64 q.many)
 ro : Row tInt W (fun j => B ≤ j ∧ j ≠ bP) (.slice A q.order.length cO) q.order
 gr : Gr W (fun j => B ≤ j ∧ j ≠ bP) q.g (.slice A1 n1 k1) (.slice A2 n2 k2)
 be : Below B X W
theorem walk_take {sd : SD} {order : List Int} {k : Nat} {n : Int} {p q : PathD} (hx : order[k]? = some n) (h : walkF sd p (order.take k) = some q) (hn : (nextF sd q n).2 = true) : walkF sd p (order.take (k + 1)) = some (nextF sd q n).1 := by
 rw [List.take_add_one, hx]
 exact walkF_snoc h hn
theorem walk_stop {sd : SD} {order : List Int} {k : Nat} {n : Int} {p q : PathD} (hx : order[k]? = some n) (h : walkF sd p (order.take k) = some q) (hn : (nextF sd q n).2 = false) : walkF sd p order = none := by
 have hk := (List.getElem?_eq_some_iff.1 hx).1
 have hd : order = order.take k ++ n :: order.drop (k + 1) := by
  have h1 := List.take_append_drop k order
  rw [List.drop_eq_getElem_cons hk, (List.getElem?_eq_some_iff.1 hx).2] at h1
  exact h1.symm
 rw [hd, walkF_append, h, Option.bind_some]
 simp only [walkF]
 rw [hn, if_neg (by simp)]
theorem orderD_none {c : CfgD} {l : List EvD} {order : List Int} (h : startD c l = none) : orderD c l order = (GraphD.zero, 1) := by unfold orderD; rw [h]
theorem orderD_stop {c : CfgD} {l : List EvD} {order : List Int} {sd : SD} (h : startD c l = some sd) (hw : walkF sd PathD.start order = none) : orderD c l order = (GraphD.zero, 2) := by unfold orderD; rw [h]; simp only; rw [hw]
theorem orderD_end {c : CfgD} {l : List EvD} {order : List Int} {sd : SD} {q : PathD} (h : startD c l = some sd) (hw : walkF sd PathD.start order = some q) : orderD c l order = if wholeB sd q.order q.many = true then (q.g, 0) else (GraphD.zero, 2) := by unfold orderD; rw [h]; simp only; rw [hw]
theorem OrderPost.bad {w V : World} {e : Int} (hb : Below w.heap.size w V) : OrderPost w (GraphD.zero, e) (.returned (.tuple #[.agg #[.slice none 0 0, .slice none 0 0, .int .i64 0, .int .i64 0], .int .i64 e])) V := ⟨_, _, rfl, Gr.zero _ _ _ _, hb⟩
set_option maxRecDepth 100000 in
set_option maxHeartbeats 16000000 in
theorem order_calls (w : World) (S S' : Nat → Prop) (c : CfgD) (v : Value) (l : List EvD) (u : Value) (order : List Int) (h : Row tEv w S v l) (ho : Row tInt w S' u order) (hlen : l.length ≤ 1000000) (hfew : ∀ x ∈ l, x.res.few) (hok : ∀ x ∈ l, okI x.th) (hol : order.length ≤ 1000000) : Calls Tryz.prog 7 #[c.val, v, u] w (OrderPost w (orderD c l order)) := by
 obtain ⟨A, cA, rfl⟩ := h.slice
 obtain ⟨AO, cO, rfl⟩ := ho.slice
 obtain ⟨n, hn⟩ : ∃ n, n = order.length := ⟨_, rfl⟩
 rw [← hn] at hol ho ⊢
 have HN := Lib.hid hn
 have H := Lib.hid h
 have HO := Lib.hid ho
 have HFW := Lib.hid hfew
 have HOK := Lib.hid hok
 clear h ho hn hfew hok
 unfold CfgD.val
 obtain ⟨W0, hW⟩ : ∃ W0, W0 = (w.alloc (.cells #[.int .i64 c.nodes, .int .i64 c.edges, .int .i64 c.props, .int .i64 c.ids, .int .i64 c.eids] 23)).alloc (.cells #[.slice none 0 0, .slice none 0 0, .int .i64 0, .int .i64 0] 31) := ⟨_, rfl⟩
 have hb0 : Below w.heap.size w W0 := by rw [hW]; exact (by repeat (first | (with_reducible exact Below.refl _ _) | (with_reducible exact Below.refl _ _) | (with_reducible refine Below.drew ?_) | (with_reducible refine Below.alloc ?_ (by simp; try omega) _) | (with_reducible refine Below.setCell ?_ (by simp; try omega) _)))
 have s0 : w.heap.size + 1 < W0.heap.size := by rw [hW]; simp
 have B0 := Lib.hid (show Box4 W0 (w.heap.size + 1) (.slice none 0 0) (.slice none 0 0) (.int .i64 0) (.int .i64 0) from by
  rw [hW]
  have := Box4.made (w.alloc (.cells #[.int .i64 c.nodes, .int .i64 c.edges, .int .i64 c.props, .int .i64 c.ids, .int .i64 c.eids] 23)) 31 (.slice none 0 0) (.slice none 0 0) (.int .i64 0) (.int .i64 0)
  rw [World.size_alloc] at this
  exact this)
 have K0 := Lib.hid hb0
 clear hb0
 go_enter Tryz.func7, Tryz.ntmps7
 go_wp2_with fail
 rw [← hW]
 clear hW
 refine (start_calls W0 S c _ l (H.out.below K0.out) hlen HFW.out HOK.out).mono ?_
 rintro e w1 hp
 unfold StartPost at hp
 cases hst : startD c l with
 | none =>
  rw [hst] at hp
  obtain ⟨rfl, hb⟩ := hp
  have HS := Lib.hid (orderD_none (order := order) hst)
  have B1' := B0.out.keep (hb.block _ s0)
  have l1 : w.heap.size + 1 < w1.heap.size := by have := hb.size; omega
  have K1 := Lib.hid (K0.out.trans (hb.mono K0.out.size))
  clear hb hst
  obtain ⟨b0, b1, b2, b3, bf⟩ := B1'
  go_wp2
  refine bodyPost_ret (v := .tuple #[.agg #[.slice none 0 0, .slice none 0 0, .int .i64 0, .int .i64 0], .int .i64 1]) (by simp [results, Tryz.results7, go_sem, b0, b1, b2, b3]; try rfl) rfl ?_
  rw [HS.out]
  exact OrderPost.bad (set4_below K1.out (by omega) _ _ _ _)
 | some sd =>
  rw [hst] at hp
  obtain ⟨bS, rfl, hSA, hb⟩ := hp
  have HS := Lib.hid hst
  obtain ⟨hc1, hc2, hc3⟩ := startD_ok hst
  have HC := Lib.hid hc2
  have HL3 := Lib.hid hc3
  have HSA := Lib.hid hSA.all
  have B1' := Lib.hid (B0.out.keep (hb.block _ s0))
  have K1 := Lib.hid (K0.out.trans (hb.mono K0.out.size))
  have s1 := hb.size
  clear hb hst hSA hc1 hc2 hc3 B0
  go_wp2_with fail
  refine (new_calls w1).mono ?_
  rintro e w2 ⟨rfl, hb⟩
  obtain ⟨V, hV⟩ : ∃ V, V = w2.alloc (.cells #[.slice none 0 0, .slice none 0 0, .slice none 0 0, .int .i64 1, .int .i64 1, .int .i64 0] 59) := ⟨_, rfl⟩
  have hbV : Below w2.heap.size w2 V := by rw [hV]; exact (Below.refl _ w2).alloc (Nat.le_refl _) _
  have P0 := Lib.hid (show Box6 V w2.heap.size _ _ _ _ _ _ from by rw [hV]; exact Box6.made w2 59 (.slice none 0 0) (.slice none 0 0) (.slice none 0 0) (.int .i64 1) (.int .i64 1) (.int .i64 0))
  have BE := Lib.hid (show Below w1.heap.size w1 V from hb.trans (hbV.mono hb.size))
  have s2 := hb.size
  have sK := K1.out.size
  clear hb hbV
  go_wp2_with fail
  rw [← hV]
  clear hV
  have HOR := Lib.hid ((HO.out.below K1.out))
  have l1 : w.heap.size + 1 < w1.heap.size := by omega
  go_loopw [29] (fun i wr => ∃ (k : Nat) (q : PathD) (A : Option Addr) (cO : Nat) (A1 : Option Addr) (n1 k1 : Nat) (A2 : Option Addr) (n2 k2 : Nat), i = .int .i64 (k : Int) ∧ Hid (LQ w1.heap.size w2.heap.size w1 sd order k q A cO A1 n1 k1 A2 n2 k2 wr)) (fun i _ => n - (intOf i).toNat)
  case atStart => exact ⟨0, PathD.start, none, 0, none, 0, 0, none, 0, 0, rfl, Nat.zero_le _, rfl, P0.out, Row.nil _ _ _, Gr.zero _ _ _ _, BE.out⟩
  case round =>
   obtain ⟨k, q, Aq, cq, A1, n1, k1, A2, n2, k2, rfl, hL⟩ := hrel
   have hk := hL.out.le
   rw [← HN.out] at hk
   have hQ := walk_ord HC.out HL3.out hL.out.wk
   have HG := Lib.hid hQ.good
   clear hQ
   obtain ⟨q0, q1, q2, q3, q4, q5⟩ : _ ∧ _ ∧ _ ∧ _ ∧ _ ∧ _ := ⟨hL.out.bx.c0, hL.out.bx.c1, hL.out.bx.c2, hL.out.bx.c3, hL.out.bx.c4, hL.out.bx.c5⟩
   have ql := hL.out.bx.lt
   have hwr := hL.out.be.size
   by_cases hlt : k < n
   ·
    obtain ⟨x, hx⟩ := getElem?_of_lt (show k < order.length by have := HN.out; omega)
    obtain ⟨b', off', rfl, _, hbl', y0⟩ := (HOR.out.below hL.out.be).atInt hx
    have HX := Lib.hid hx
    have hmany : 0 ≤ q.many ∧ q.many ≤ 1000 := ⟨HG.out.m0, by have := HG.out.m1; have := HG.out.len; have := HL3.out; omega⟩
    have HMA := Lib.hid hmany
    have hll : (k : Int) < (n : Int) := by omega
    clear hx hmany
    go_wp2_with fail
    refine (next_calls wr (fun _ => True) sd bS q _ x (HSA.out.below hL.out.be) ⟨_, _, _, _, _, _, _, _, rfl, hL.out.ro.mono fun _ _ _ => trivial, hL.out.gr.mono fun _ _ _ => trivial⟩ HG.out.inr (by have := HG.out.len; have := HL3.out; omega) (by have := HL3.out; omega) (HG.out.rdy HC.out HL3.out) HMA.out).mono ?_
    rintro e w3 ⟨qv, rfl, hq, hb⟩
    obtain ⟨r, hrr⟩ : ∃ r, r = nextF sd q x := ⟨_, rfl⟩
    rw [← hrr] at hq ⊢
    obtain ⟨A', cO', A1', n1', k1', A2', n2', k2', rfl, hro, hgr⟩ := hq
    have HRR := Lib.hid hrr
    clear hrr
    obtain ⟨q', ok⟩ := r
    simp only at hro hgr ⊢
    have R3 := Lib.hid (hro.mono (S' := fun j => w1.heap.size ≤ j ∧ j ≠ w2.heap.size) fun j hj _ => by (try simp only at hj ⊢); omega)
    have G3 := Lib.hid (hgr.mono (S' := fun j => w1.heap.size ≤ j ∧ j ≠ w2.heap.size) fun j hj _ => by (try simp only at hj ⊢); omega)
    have K3 := Lib.hid (hL.out.be.trans (hb.mono hwr))
    have X3 := Lib.hid (hL.out.bx.below hb)
    have B3 := Lib.hid (B1'.out.keep (K3.out.block _ l1))
    have s3 := hb.size
    clear hb hro hgr q0 q1 q2 q3 q4 q5 ql y0 hbl'
    cases ok with
    | false =>
     have HS2 := Lib.hid (orderD_stop HS.out (walk_stop HX.out hL.out.wk (by rw [← HRR.out])))
     have lU : w.heap.size + 1 < w3.heap.size := by omega
     obtain ⟨b0, b1, b2, b3, bf⟩ := B3.out
     go_wp2
     refine bodyPost_ret (v := .tuple #[.agg #[.slice none 0 0, .slice none 0 0, .int .i64 0, .int .i64 0], .int .i64 2]) (by simp [results, Tryz.results7, go_sem, b0, b1, b2, b3, lU]; try rfl) rfl ?_
     rw [HS2.out]
     have hz := set4_below (K1.out.trans (K3.out.mono K1.out.size)) (by omega : w.heap.size ≤ w.heap.size + 1) (.slice none 0 0) (.slice none 0 0) (.int .i64 0) (.int .i64 0)
     exact OrderPost.bad (hz.alloc (by have := hz.size; omega) _)
    | true =>
     have HW := Lib.hid (walk_take HX.out hL.out.wk (by rw [← HRR.out]))
     obtain ⟨q0, q1, q2, q3, q4, q5⟩ : _ ∧ _ ∧ _ ∧ _ ∧ _ ∧ _ := ⟨X3.out.c0, X3.out.c1, X3.out.c2, X3.out.c3, X3.out.c4, X3.out.c5⟩
     have qf := X3.out.fz
     have ql := X3.out.lt
     go_wp2
     go_roundw
     case rel =>
      obtain ⟨Z, hZ⟩ : ∃ Z, Z = set6 w3 w2.heap.size (.slice A' q'.order.length cO') (.slice A1' n1' k1') (.slice A2' n2' k2') (.int .i64 q'.g.nn) (.int .i64 q'.g.ne) (.int .i64 q'.many) := ⟨_, rfl⟩
      have zX := X3.out.set (.slice A' q'.order.length cO') (.slice A1' n1' k1') (.slice A2' n2' k2') (.int .i64 q'.g.nn) (.int .i64 q'.g.ne) (.int .i64 q'.many)
      rw [← hZ] at zX
      have zR := R3.out.move (w' := Z) fun j hj _ => by rw [hZ]; exact set6_heap _ _ _ _ _ _ _ _ _ hj.2
      have zG := G3.out.move (w' := Z) fun j hj _ => by rw [hZ]; exact set6_heap _ _ _ _ _ _ _ _ _ hj.2
      have zK : Below w1.heap.size w1 Z := by rw [hZ]; exact set6_below K3.out (by omega) _ _ _ _ _ _
      have zb := (Below.refl Z.heap.size Z).alloc (Nat.le_refl _) (.cells #[.slice A' q'.order.length cO', .slice A1' n1' k1', .slice A2' n2' k2', .int .i64 q'.g.nn, .int .i64 q'.g.ne, .int .i64 q'.many] 59)
      unfold set6 at hZ
      rw [← hZ]
      exact ⟨k + 1, q', _, _, _, _, _, _, _, _, by first | (go_num; done) | (go_num; omega), by have := HN.out; omega, by rw [HW.out, ← HRR.out], zX.below zb, zR.below zb, zG.below zb, zK.trans (zb.mono zK.size)⟩
     case measure => simp [intOf]; omega
   ·
    obtain rfl : k = n := by omega
    have HW := Lib.hid (show walkF sd PathD.start order = some q from by have := hL.out.wk; rw [HN.out, List.take_length] at this; exact this)
    go_wp2_with fail
    refine (whole_calls wr (fun _ => True) sd bS q.order Aq cq A1 n1 k1 A2 n2 k2 _ _ _ (HSA.out.below hL.out.be) (hL.out.ro.mono fun _ _ _ => trivial) HG.out.inr (by have := HG.out.len; have := HL3.out; omega)).mono ?_
    rintro e w3 ⟨rfl, hb⟩
    have HE := orderD_end HS.out HW.out
    have KU := Lib.hid (hL.out.be.trans (hb.mono hwr))
    have B1U := B1'.out.keep (KU.out.block _ l1)
    have X5 := Lib.hid (hL.out.bx.below hb)
    have G5 := Lib.hid (hL.out.gr.below hb)
    have sU := hb.size
    have lU : w.heap.size + 1 < w3.heap.size := by omega
    clear hb q0 q1 q2 q3 q4 q5 ql
    obtain ⟨b0, b1, b2, b3, bf⟩ := B1U
    cases hw : wholeB sd q.order q.many with
    | false =>
     rw [hw, if_neg (by simp)] at HE
     have HS2 := Lib.hid HE
     clear hw HE
     go_wp2
     refine bodyPost_ret (v := .tuple #[.agg #[.slice none 0 0, .slice none 0 0, .int .i64 0, .int .i64 0], .int .i64 2]) (by simp [results, Tryz.results7, go_sem, b0, b1, b2, b3]; try rfl) rfl ?_
     rw [HS2.out]
     exact OrderPost.bad (set4_below (K1.out.trans (KU.out.mono K1.out.size)) (by omega) _ _ _ _)
    | true =>
     rw [hw, if_pos rfl] at HE
     have HS2 := Lib.hid HE
     clear hw HE
     obtain ⟨q0, q1, q2, q3, q4, q5⟩ : _ ∧ _ ∧ _ ∧ _ ∧ _ ∧ _ := ⟨X5.out.c0, X5.out.c1, X5.out.c2, X5.out.c3, X5.out.c4, X5.out.c5⟩
     have ql := X5.out.lt
     go_wp2
     refine bodyPost_ret (v := .tuple #[.agg #[.slice A1 n1 k1, .slice A2 n2 k2, .int .i64 q.g.nn, .int .i64 q.g.ne], .int .i64 0]) (by simp [results, Tryz.results7, go_sem, b0, b1, b2, b3]; try rfl) rfl ?_
     rw [HS2.out]
     exact ⟨_, _, rfl, (G5.out.move fun j hj _ => set4_heap _ _ _ _ _ _ _ (by (try simp only at hj); omega)).mono fun j hj _ => by (try simp only at hj ⊢); omega, set4_below (K1.out.trans (KU.out.mono K1.out.size)) (by omega) _ _ _ _⟩
end Go.Proofs.YtpehmmdbjakkpaaGreat
namespace Go.Proofs.YtpehmmdbjakkpaaGreat
open Go.RowKit Go.Shelf
set_option linter.unusedSimpArgs false
set_option linter.unusedVariables false
def manyN (l : List EvD) : Nat := (l.filter fun x => !x.done).length
theorem manyN_take {l : List EvD} {k : Nat} {x : EvD} (hx : l[k]? = some x) : manyN (l.take (k + 1)) = manyN (l.take k) + if x.done then 0 else 1 := by
 unfold manyN
 rw [List.take_add_one, hx, List.filter_append, List.length_append]
 cases hd : x.done <;> simp [hd]
theorem manyN_le (l : List EvD) : manyN l ≤ l.length := List.length_filter_le _ _
set_option maxRecDepth 100000 in
set_option maxHeartbeats 4000000 in
theorem many_calls (w : World) (S : Nat → Prop) (v : Value) (l : List EvD) (h : Row tEv w S v l) (hlen : l.length ≤ 1000000) : Calls Tryz.prog 11 #[v] w fun e w' => e = .returned (.int .i64 (manyN l : Int)) ∧ Below w.heap.size w w' := by
 obtain ⟨A, c, rfl⟩ := h.slice
 have H := Lib.hid h
 clear h
 go_enter Tryz.func11, Tryz.ntmps11
 go_wp2
 go_loopw [3, 8] (fun s i wr => ∃ k : Nat, k ≤ l.length ∧ i = .int .i64 (k : Int) ∧ s = .int .i64 (manyN (l.take k) : Int) ∧ Hid (Below w.heap.size w wr)) (fun _ i _ => l.length - (intOf i).toNat)
 case atStart => exact ⟨0, Nat.zero_le _, rfl, rfl, Below.refl _ _⟩
 case round =>
  obtain ⟨k, hk, rfl, rfl, hb⟩ := hrel
  have hwr := hb.out.size
  by_cases hlt : k < l.length
  ·
   obtain ⟨x, hx⟩ := getElem?_of_lt hlt
   obtain ⟨b, off, a1, d1, a2, d2, a3, d3, rfl, hbl, _, x0, x1, x2, x3, x4, x5, x6, x7, x8, x9, x10, x11⟩ := (H.out.below hb.out).atEvF hx
   have HM := Lib.hid (manyN_take hx)
   have hle : manyN (l.take k) ≤ k := by have := manyN_le (l.take k); rw [List.length_take] at this; omega
   obtain ⟨m, hm⟩ : ∃ m, m = manyN (l.take k) := ⟨_, rfl⟩
   rw [← hm] at hle HM ⊢
   clear hm hx
   cases hd : x.done
   ·
    rw [hd] at HM x1
    go_wp2
    go_roundw
    case rel => exact ⟨k + 1, by omega, by first | (go_num; done) | (go_num; omega), by rw [HM.out]; first | (go_num; done) | (go_num; omega) | rfl, hb.out.alloc hwr _⟩
    case measure => simp [intOf]; omega
   ·
    rw [hd] at HM x1
    go_wp2
    go_roundw
    case rel => exact ⟨k + 1, by omega, by first | (go_num; done) | (go_num; omega), by rw [HM.out]; rfl, hb.out.alloc hwr _⟩
    case measure => simp [intOf]; omega
  ·
   obtain rfl : k = l.length := by omega
   have HT := Lib.hid (List.take_length (l := l))
   go_wp2
   go_ret
   exact ⟨by rw [HT.out]; rfl, hb.out⟩
theorem eq_of_all {xs ys : List Int} (hl : xs.length = ys.length) (h : ∀ j, j < xs.length → xs[j]? = ys[j]?) : xs = ys := by
 apply List.ext_getElem? 
 intro i
 rcases Nat.lt_or_ge i xs.length with hi | hi
 ·
  exact h i hi
 ·
  rw [List.getElem?_eq_none hi, List.getElem?_eq_none (by omega)]
set_option maxRecDepth 100000 in
set_option maxHeartbeats 4000000 in
theorem same02_calls (w : World) (S S' : Nat → Prop) (v u : Value) (xs ys : List Int) (h : Row tInt w S v xs) (h' : Row tInt w S' u ys) (hlen : xs.length ≤ 1000000) : Calls Tryz.prog 16 #[v, u] w fun e w' => e = .returned (.bool (decide (xs = ys))) ∧ Below w.heap.size w w' := by
 obtain ⟨A, c, rfl⟩ := h.slice
 obtain ⟨B, d, rfl⟩ := h'.slice
 have H := Lib.hid h
 have H' := Lib.hid h'
 clear h h'
 by_cases hl : xs.length = ys.length
 case neg =>
  have HN := Lib.hid (show decide (xs = ys) = false from by simp; exact fun e => hl (by rw [e]))
  have hl' : ¬ ((xs.length : Int) = (ys.length : Int)) := by omega
  go_enter Tryz.func16, Tryz.ntmps16
  go_wp2
  go_ret
  exact ⟨by rw [HN.out]; rfl, Below.refl _ _⟩
 obtain ⟨n, hn⟩ : ∃ n, n = xs.length := ⟨_, rfl⟩
 have hn2 : n = ys.length := by omega
 rw [← hn, ← hn2]
 rw [← hn] at H hlen
 rw [← hn2] at H'
 have HN := Lib.hid hn
 have HN2 := Lib.hid hn2
 clear hl hn hn2
 go_enter Tryz.func16, Tryz.ntmps16
 go_wp2
 go_loopw [13] (fun i wr => ∃ k : Nat, k ≤ n ∧ i = .int .i64 (k : Int) ∧ Hid (∀ j, j < k → xs[j]? = ys[j]?) ∧ Hid (Below w.heap.size w wr)) (fun i _ => n - (intOf i).toNat)
 case atStart => exact ⟨0, Nat.zero_le _, rfl, fun j hj => absurd hj (by omega), Below.refl _ _⟩
 case round =>
  obtain ⟨k, hk, rfl, he, hb⟩ := hrel
  by_cases hlt : k < n
  ·
   obtain ⟨x, hx⟩ := getElem?_of_lt (show k < xs.length by have := HN.out; omega)
   obtain ⟨y, hy⟩ := getElem?_of_lt (show k < ys.length by have := HN2.out; omega)
   obtain ⟨b, off, rfl, _, hbl, x0⟩ := (H.out.below hb.out).atInt hx
   obtain ⟨b', off', rfl, _, hbl', y0⟩ := (H'.out.below hb.out).atInt hy
   have HX := Lib.hid hx
   have HY := Lib.hid hy
   have hlt' : (k : Int) < (n : Int) := by omega
   clear hx hy
   go_wp2_with fail
   refine wp_region_schedK (fun _ => True) [(0, true), (1, true), (2, true), (3, true), (4, true), (5, true), (6, true), (7, true), (8, true)] (by kernel_rfl) (by kernel_rfl) (fun hS => ?_)
   have HK := Lib.hid hS
   clear hS
   have KD := Lib.hid (Below.refl wr.heap.size wr).drew
   revert HK KD
   generalize wr.drew = Wd
   intro HK KD
   repeat (refine sched_take (v := ?_) (by simp only [opT, opS, opZ]; rfl) (Or.inl ⟨by rfl, fun W hW => ?_⟩) HK.out ?_; rotate_left; (have hc := fun b o hb => hW.cell b o trivial hb; clear hW; go_simp; with_reducible rfl); simp only [Act.put, putT, putZ, putS])
   refine sched_done ?_
   have K1 := Lib.hid (hb.out.trans (KD.out.mono hb.out.size))
   by_cases hxy : x = y
   ·
    subst hxy
    go_wp2
    go_roundw
    case rel => exact ⟨k + 1, by omega, by first | (go_num; done) | (go_num; omega), fun j hj => (by
     rcases Nat.lt_or_ge j k with h | h
     ·
      exact he.out j h
     ·
      obtain rfl : j = k := by omega
      rw [HX.out, HY.out]), K1.out⟩
    case measure => simp [intOf]; omega
   ·
    have HNE := Lib.hid (show decide (xs = ys) = false from by
     simp
     intro e
     rw [e, HY.out] at HX
     have := HX.out
     injection this with this
     exact hxy this.symm)
    go_wp2
    go_ret
    exact ⟨by rw [HNE.out]; rfl, K1.out⟩
  ·
   obtain rfl : k = n := by omega
   have HE := Lib.hid (show decide (xs = ys) = true from by
    simp
    exact eq_of_all (by rw [← HN.out, ← HN2.out]) (fun j hj => he.out j (by rw [HN.out]; exact hj)))
   go_wp2
   go_ret
   exact ⟨by rw [HE.out]; rfl, hb.out⟩
end Go.Proofs.YtpehmmdbjakkpaaGreat
namespace Go.Proofs.YtpehmmdbjakkpaaGreat
open Go.RowKit Go.Shelf
set_option linter.unusedSimpArgs false
set_option linter.unusedVariables false
theorem flatten_get {α : Type} {n : Nat} : ∀ {css : List (List α)} {j : Nat} {cs : List α}, (∀ cs ∈ css, cs.length = n) → css[j]? = some cs → ∀ i, i < n → css.flatten[j * n + i]? = cs[i]? := by
 intro css
 induction css with
 | nil => intro j cs _ h; simp at h
 | cons c r ih =>
  intro j cs hl h i hi
  have hc := hl c (List.mem_cons_self ..)
  cases j with
  | zero =>
   simp only [List.getElem?_cons_zero, Option.some.injEq] at h
   subst h
   rw [List.flatten_cons, Nat.zero_mul, Nat.zero_add, List.getElem?_append_left (by omega)]
  | succ j =>
   simp only [List.getElem?_cons_succ] at h
   rw [List.flatten_cons, List.getElem?_append_right (by rw [hc, Nat.succ_mul]; omega), hc, ← ih (fun cs h => hl cs (List.mem_cons_of_mem _ h)) h i hi]
   congr 1
   rw [Nat.succ_mul]
   omega
/-- A block of cells reads as a row. -/
theorem Row.made {α : Type} {t : Ty α} {W : World} {b : Nat} {e : TypeId} {S : Nat → Prop} (css : List (List Value)) (xs : List α) (h : W.heap[b]? = some (.cells css.flatten.toArray e (0, 0))) (hs : ∀ cs ∈ css, cs.length = t.sz) (hk : ∀ (j : Nat) (x : α), xs[j]? = some x → ∃ cs, css[j]? = some cs ∧ t.K W S x cs) (hS : S b) (hm : xs.length ≤ maxLen) : Row t W S (.slice (some ⟨b, 0, none⟩) xs.length xs.length) xs := by
 refine ⟨_, xs.length, rfl, Nat.le_refl _, hm, by simp, .inr ⟨b, 0, rfl, hS, (Array.getElem?_eq_some_iff.1 h).1, fun j x hj => ?_⟩⟩
 obtain ⟨cs, hc, hK⟩ := hk j x hj
 refine ⟨cs, hK, fun i v hv => ?_⟩
 have hi : i < t.sz := by rw [← hs cs (List.mem_of_getElem? hc)]; exact (List.getElem?_eq_some_iff.1 hv).1
 have := flatten_get hs hc i hi
 simp only [World.cell?, h, Nat.zero_add]
 simp [this, hv]
def cfg4 : CfgD := ⟨4, 4, 4, 4, 4⟩
def evs4 : List EvD := [⟨0, false, ⟨1, 0, 0, 0, 0⟩, ResD.nil⟩, ⟨1, false, ⟨6, 1, 0, 0, 0⟩, ResD.nil⟩, ⟨1, true, ⟨6, 1, 0, 0, 0⟩, ⟨2, 0, [], [], []⟩⟩, ⟨0, true, ⟨1, 0, 0, 0, 0⟩, ⟨0, 1, [], [], []⟩⟩]
theorem live_val : firstD (startD cfg4 evs4) (fun _ => true) = (⟨[1, 0], ⟨[⟨1, []⟩], [], 2, 1⟩, 2⟩, 0) := by rfl
def evCells (x : EvD) (p o i : Value) : List Value := [.int .i64 x.th, .bool x.done, .int .i64 x.op.k, .int .i64 x.op.a, .int .i64 x.op.b, .int .i64 x.op.p, .int .i64 x.op.v, .int .i64 x.res.st, .int .i64 x.res.id, p, o, i]
theorem plain13_calls (w : World) : Calls Tryz.prog 17 #[] w fun e w' => e = .returned (.agg #[.int .i64 4, .int .i64 4, .int .i64 4, .int .i64 4, .int .i64 4]) ∧ Below w.heap.size w w' := by
 go_enter Tryz.func17, Tryz.ntmps17
 go_wp2
 refine bodyPost_ret (v := .agg #[.int .i64 4, .int .i64 4, .int .i64 4, .int .i64 4, .int .i64 4]) (by simp [results, Tryz.results17, go_sem]; try rfl) rfl ?_
 exact ⟨rfl, (by repeat (first | (with_reducible exact Below.refl _ _) | (with_reducible exact Below.refl _ _) | (with_reducible refine Below.drew ?_) | (with_reducible refine Below.alloc ?_ (by simp; try omega) _) | (with_reducible refine Below.setCell ?_ (by simp; try omega) _)))⟩
set_option maxRecDepth 100000 in
set_option maxHeartbeats 8000000 in
theorem live13_calls (w : World) : Calls Tryz.prog 5 #[] w fun e w' => e = .returned (.bool true) ∧ Below w.heap.size w w' := by
 go_enter Tryz.func5, Tryz.ntmps5
 go_wp2_with fail
 obtain ⟨W1, hW1⟩ : ∃ W1, W1 = ((w.alloc (.cells #[.int .i64 1, .int .i64 0, .int .i64 0, .int .i64 0, .int .i64 0] 46)).alloc (.cells #[.int .i64 6, .int .i64 1, .int .i64 0, .int .i64 0, .int .i64 0] 46)) := ⟨_, rfl⟩
 have z1 : W1.heap.size = w.heap.size + 1 + 1 := by rw [hW1]; simp
 have K1 := Lib.hid (show Below w.heap.size w W1 by rw [hW1]; exact (by repeat (first | (with_reducible exact Below.refl _ _) | (with_reducible exact Below.refl _ _) | (with_reducible refine Below.drew ?_) | (with_reducible refine Below.alloc ?_ (by simp; try omega) _) | (with_reducible refine Below.setCell ?_ (by simp; try omega) _))))
 rw [← hW1]
 clear hW1
 obtain ⟨W2, hW2⟩ : ∃ W2, W2 = W1.alloc (.cells (evs4.flatMap fun x => evCells x (.slice none 0 0) (.slice none 0 0) (.slice none 0 0)).toArray 52) := ⟨_, rfl⟩
 have K2 := Lib.hid (show Below w.heap.size w W2 by rw [hW2]; exact K1.out.alloc K1.out.size _)
 have HR := Lib.hid (show Row tEv W2 (fun _ => True) (.slice (some ⟨W1.heap.size, 0, none⟩) 4 4) evs4 from Row.made (evs4.map fun x => evCells x (.slice none 0 0) (.slice none 0 0) (.slice none 0 0)) evs4 (by rw [hW2]; exact heap_alloc_new _ _) (fun cs h => by
   obtain ⟨x, _, rfl⟩ := List.mem_map.1 h
   rfl) (fun j x h => ⟨_, by rw [List.getElem?_map, h]; rfl, .slice none 0 0, .slice none 0 0, .slice none 0 0, ⟨by
    have : x ∈ evs4 := List.mem_of_getElem? h
    simp only [evs4, List.mem_cons, List.not_mem_nil, or_false] at this
    rcases this with rfl | rfl | rfl | rfl <;> exact Row.nil _ _ _, by
    have : x ∈ evs4 := List.mem_of_getElem? h
    simp only [evs4, List.mem_cons, List.not_mem_nil, or_false] at this
    rcases this with rfl | rfl | rfl | rfl <;> exact Row.nil _ _ _, by
    have : x ∈ evs4 := List.mem_of_getElem? h
    simp only [evs4, List.mem_cons, List.not_mem_nil, or_false] at this
    rcases this with rfl | rfl | rfl | rfl <;> exact Row.nil _ _ _⟩, rfl⟩) trivial (by unfold maxLen; decide))
 have e2 : W2 = _ := hW2
 simp only [evs4, evCells, List.flatMap_cons, List.flatMap_nil, List.cons_append, List.nil_append, List.append_nil, ResD.nil] at e2
 rw [← e2]
 clear hW2 e2
 refine (plain13_calls W2).mono ?_
 rintro e w3 ⟨rfl, hb⟩
 have HR3 := Lib.hid (HR.out.below hb)
 have K3 := Lib.hid (K2.out.trans (hb.mono K2.out.size))
 clear hb HR K2
 rw [z1] at HR3
 go_wp2_with fail
 refine (search_calls w3 _ cfg4 _ evs4 HR3.out (by decide) (fun x hx => ?_) (fun x hx => ?_)).mono ?_
 ·
  simp only [evs4, List.mem_cons, List.not_mem_nil, or_false] at hx
  rcases hx with rfl | rfl | rfl | rfl <;> exact ⟨by simp [ResD.nil], by simp [ResD.nil], by simp [ResD.nil]⟩
 ·
  simp only [evs4, List.mem_cons, List.not_mem_nil, or_false] at hx
  rcases hx with rfl | rfl | rfl | rfl <;> (unfold okI; simp)
 rintro e w4 hp
 rw [live_val] at hp
 obtain ⟨vo, vn, ve, rfl, hro, hgr, hb⟩ := hp
 simp only at hro hgr ⊢
 obtain ⟨⟨A3, c3, rfl⟩, ⟨A4, c4, rfl⟩⟩ := hgr.slices
 obtain ⟨A5, c5, rfl⟩ := hro.slice
 simp only [List.length_cons, List.length_nil, Nat.reduceAdd] at hro hgr ⊢
 have K4 := Lib.hid (K3.out.trans (hb.mono K3.out.size))
 have RO := Lib.hid hro
 clear hb hro hgr HR3 K3
 obtain ⟨V, hV⟩ : ∃ V, V = (w4.alloc (.cells #[.slice A3 1 c3, .slice A4 0 c4, .int .i64 2, .int .i64 1] 31)).alloc (.cells #[.int .i64 1, .int .i64 0] 3) := ⟨_, rfl⟩
 have hbV : Below w4.heap.size w4 V := by rw [hV]; exact (by repeat (first | (with_reducible exact Below.refl _ _) | (with_reducible exact Below.refl _ _) | (with_reducible refine Below.drew ?_) | (with_reducible refine Below.alloc ?_ (by simp; try omega) _) | (with_reducible refine Below.setCell ?_ (by simp; try omega) _)))
 have G4 := Lib.hid (show Box4 V w4.heap.size _ _ _ _ from by rw [hV]; exact (Box4.made w4 31 (.slice A3 1 c3) (.slice A4 0 c4) (.int .i64 2) (.int .i64 1)).keep (Below.heap_alloc _ _ _ (by simp)))
 have RV := Lib.hid (show Row tInt V (fun _ => True) (.slice (some ⟨w4.heap.size + 1, 0, none⟩) 2 2) [1, 0] from by
  have hz : (w4.alloc (.cells #[.slice A3 1 c3, .slice A4 0 c4, .int .i64 2, .int .i64 1] 31)).heap.size = w4.heap.size + 1 := by simp
  have := Row.made (t := tInt) (W := V) (b := w4.heap.size + 1) (e := 3) (S := fun _ => True) [[.int .i64 1], [.int .i64 0]] [1, 0] (by
   rw [hV, ← hz]
   exact heap_alloc_new _ _) (fun cs h => by
   simp only [List.mem_cons, List.not_mem_nil, or_false] at h
   rcases h with rfl | rfl <;> rfl) (fun j x h => by
   match j, h with
   | 0, h => simp at h; subst h; exact ⟨_, rfl, rfl⟩
   | 1, h => simp at h; subst h; exact ⟨_, rfl, rfl⟩) trivial (by unfold maxLen; decide)
  exact this)
 have z4 : w4.heap.size < V.heap.size := by rw [hV]; simp; omega
 go_wp2_with fail
 rw [← hV]
 clear hV
 refine (same02_calls V _ _ _ _ [1, 0] [1, 0] (RO.out.below hbV) RV.out (by decide)).mono ?_
 rintro e w5 ⟨rfl, hb⟩
 have G5 := Lib.hid (G4.out.keep (hb.block _ z4))
 have l5 : w4.heap.size < w5.heap.size := by have := hb.size; omega
 have K5 := Lib.hid (K4.out.trans ((hbV.trans (hb.mono hbV.size)).mono K4.out.size))
 clear hb hbV G4 RO RV
 obtain ⟨g0, g1, g2, g3, gf⟩ := G5.out
 have hd : decide (([1, 0] : List Int) = [1, 0]) = true := by decide
 rw [hd]
 go_wp2
 go_ret
 exact ⟨rfl, K5.out⟩
end Go.Proofs.YtpehmmdbjakkpaaGreat


