/- The document's search, as plain data: a step, what is left, and the first order. tendrilref13.calls, left and step. tendrilref13.step. -/
import Derived.Test.YtpehmmdbjakkpaaGreatLinQM
import Derived.Test.YtpehmmdbjakkpaaGreatHRefM
set_option linter.unusedSimpArgs false
set_option linter.unusedVariables false
namespace Go.Proofs.YtpehmmdbjakkpaaGreat
open Go.RowKit Go.Shelf
def UniqF (sd : SD) : Prop := ∀ (i j : Nat) (c d : CallD), sd.calls[i]? = some c → sd.calls[j]? = some d → c.frm = d.frm → i = j
theorem start_uniq {c : CfgD} {l : List EvD} {sd : SD} (h : startD c l = some sd) : UniqF sd := by
 obtain ⟨st, hrun, _, _, rfl⟩ := startD_some h
 have hi := runL_inv hrun
 intro i j c d hc hd he
 rcases Nat.lt_trichotomy i j with h1 | h1 | h1
 ·
  have := hi.asc i j c d h1 hc hd; omega
 ·
  exact h1
 ·
  have := hi.asc j i d c h1 hd hc; omega
theorem ready_no1 {sd : SD} {order : List Int} {n : Nat} (h : (n : Int) ∈ order) : readyB sd order n = false := by
 cases hr : readyB sd order n with
 | false => rfl
 | true => exact absurd h (ready_new hr)
theorem ready_no2 {sd : SD} {order : List Int} {n i : Nat} {x c : CallD} (hu : UniqF sd) (hin : InR sd order) (hx : sd.calls[n]? = some x) (hc : sd.calls[i]? = some c) (hb : beforeB c x = true) (hi : (i : Int) ∉ order) : readyB sd order n = false := by
 cases hr : readyB sd order n with
 | false => rfl
 | true =>
  exfalso
  unfold readyB at hr
  rw [hx] at hr
  simp only [Bool.and_eq_true, Bool.not_eq_true'] at hr
  have h := List.any_eq_false.1 hr.2 c (List.mem_of_getElem? hc)
  unfold blocks at h
  rw [hb, Bool.true_and] at h
  cases ha : (order.any fun k => frmOf sd k == c.frm) with
  | false => rw [ha] at h; simp at h
  | true =>
   obtain ⟨j, hj, he⟩ := List.any_eq_true.1 ha
   obtain ⟨h0, h1⟩ := hin j hj
   obtain ⟨m, rfl⟩ : ∃ m : Nat, j = (m : Int) := ⟨j.toNat, (Int.toNat_of_nonneg h0).symm⟩
   obtain ⟨d, hd⟩ := getElem?_of_lt (show m < sd.calls.length by omega)
   rw [frmOf_at hd] at he
   obtain rfl := hu m i d c hd hc (by simpa using he)
   exact hi hj
theorem ready_yes {sd : SD} {order : List Int} {n : Nat} {x : CallD} (hx : sd.calls[n]? = some x) (hn : (n : Int) ∉ order) (h : ∀ (i : Nat) (c : CallD), sd.calls[i]? = some c → (i : Int) ∈ order ∨ beforeB c x = false) : readyB sd order n = true := by
 unfold readyB
 rw [hx]
 simp only [Bool.and_eq_true, Bool.not_eq_true']
 refine ⟨List.any_eq_false.2 fun y hy he => ?_, List.any_eq_false.2 fun c hc he => ?_⟩
 ·
  rw [beq_iff_eq] at he
  rw [he] at hn
  exact hn hy
 ·
  obtain ⟨i, hi⟩ := List.getElem?_of_mem hc
  unfold blocks at he
  simp only [Bool.and_eq_true, Bool.not_eq_true'] at he
  rcases h i c hi with h1 | h1
  ·
   have := List.any_eq_false.1 he.2 (i : Int) h1
   rw [frmOf_at hi] at this
   simp at this
  ·
   rw [h1] at he; exact absurd he.1 (by simp)
theorem next_yes {sd : SD} {p : PathD} {n : Nat} {x : CallD} (hx : sd.calls[n]? = some x) (hr : readyB sd p.order n = true) : nextF sd p (n : Int) = if x.to < 0 then (⟨p.order ++ [(n : Int)], (doOf sd.c p.g x.op).1, p.many⟩, true) else (⟨p.order ++ [(n : Int)], (fitsF sd.c p.g x.op x.res).1, p.many + 1⟩, (fitsF sd.c p.g x.op x.res).2) := by
 unfold nextF
 rw [if_neg (by omega), Int.toNat_natCast, hx]
 simp only
 rw [hr, if_neg (by simp)]
theorem next_nope {sd : SD} {p : PathD} {n : Nat} {x : CallD} (hx : sd.calls[n]? = some x) (hr : readyB sd p.order n = false) : (nextF sd p (n : Int)).2 = false := by
 unfold nextF
 rw [if_neg (by omega), Int.toNat_natCast, hx]
 simp only
 rw [hr, if_pos rfl]
def leftI (sd : SD) (order : List Int) : Int := ((sd.calls.length : Int) - pendOf sd.calls) - (cntF sd order : Int)
theorem left_zero {sd : SD} {p : PathD} (h : OrdP sd p) (hneed : sd.need = (sd.calls.length : Int) - pendOf sd.calls) : leftI sd p.order = sd.need - p.many := by
 unfold leftI
 rw [h.cnt, hneed]
def lastB (sd : SD) (order : List Int) : Bool := match order.getLast? with
 | some k => decide (0 ≤ toOf sd k)
 | none => true
theorem whole_is {sd : SD} {p : PathD} (h : OrdP sd p) (hneed : sd.need = (sd.calls.length : Int) - pendOf sd.calls) : wholeB sd p.order p.many = (lastB sd p.order && decide (leftI sd p.order = 0)) := by
 have h1 := left_zero h hneed
 unfold wholeB lastB
 rw [h1]
 have e : (p.many == sd.need) = decide (sd.need - p.many = 0) := by
  by_cases h2 : p.many = sd.need
  ·
   simp [h2]
  ·
   have h3 : ¬ sd.need - p.many = 0 := by omega
   simp [h2, h3]
 rw [e, Bool.and_comm]
 rfl
def findF (sd : SD) (good : PathD → Bool) (f : Nat) (p : PathD) : Option PathD := (pathsF sd f p).find? good
theorem find_whole {sd : SD} {good : PathD → Bool} {f : Nat} {p : PathD} (h : wholeB sd p.order p.many = true) : findF sd good f p = if good p = true then some p else none := by
 unfold findF
 rw [pathsF_eq, if_pos h]
 by_cases hg : good p = true
 ·
  rw [if_pos hg, List.find?_cons_of_pos hg]
 ·
  rw [if_neg hg, List.find?_cons_of_neg hg]
  rfl
theorem find_need {sd : SD} {good : PathD → Bool} {f : Nat} {p : PathD} (h : ¬ wholeB sd p.order p.many = true) (hm : p.many = sd.need) : findF sd good f p = none := by
 unfold findF
 rw [pathsF_eq, if_neg h, if_pos hm]
 rfl
def NoneTo (sd : SD) (good : PathD → Bool) (f : Nat) (p : PathD) (i : Nat) : Prop := ∀ j, j < i → (kid sd f p j).find? good = none
theorem flat_none {good : PathD → Bool} {K : Nat → List PathD} : ∀ (L : List Nat), (∀ j ∈ L, (K j).find? good = none) → (L.flatMap K).find? good = none := by
 intro L
 induction L with
 | nil => intro _; rfl
 | cons j L ih =>
  intro h
  rw [List.flatMap_cons, List.find?_append, h j (List.mem_cons_self ..), Option.none_or]
  exact ih fun i hi => h i (List.mem_cons_of_mem _ hi)
theorem find_loop {sd : SD} {good : PathD → Bool} {f : Nat} {p : PathD} (h : ¬ wholeB sd p.order p.many = true) (hm : ¬ p.many = sd.need) (hn : NoneTo sd good f p sd.calls.length) : findF sd good f p = none := by
 unfold findF
 rw [pathsF_eq, if_neg h, if_neg hm]
 exact flat_none _ fun j hj => hn j (List.mem_range.1 hj)
theorem find_hit {sd : SD} {good : PathD → Bool} {f : Nat} {p : PathD} {i : Nat} {x : PathD} (h : ¬ wholeB sd p.order p.many = true) (hm : ¬ p.many = sd.need) (hi : i < sd.calls.length) (hn : NoneTo sd good f p i) (hx : (kid sd f p i).find? good = some x) : findF sd good f p = some x := by
 obtain ⟨later, hl⟩ := kids_split sd f p hi
 unfold findF
 rw [pathsF_eq, if_neg h, if_neg hm, hl, List.find?_append, List.find?_append, flat_none _ fun j hj => hn j (List.mem_range.1 hj), Option.none_or, hx]
 rfl
theorem none_no {sd : SD} {good : PathD → Bool} {f : Nat} {p : PathD} {i : Nat} (hn : NoneTo sd good f p i) (h : (nextF sd p (i : Int)).2 = false) : NoneTo sd good f p (i + 1) := fun j hj => by
 rcases Nat.lt_or_ge j i with h1 | h1
 ·
  exact hn j h1
 ·
  obtain rfl : j = i := by omega
  rw [kid_no h]
  rfl
theorem none_yes {sd : SD} {good : PathD → Bool} {f : Nat} {p : PathD} {i : Nat} (hn : NoneTo sd good (f + 1) p i) (h : (nextF sd p (i : Int)).2 = true) (hf : findF sd good f (nextF sd p (i : Int)).1 = none) : NoneTo sd good (f + 1) p (i + 1) := fun j hj => by
 rcases Nat.lt_or_ge j i with h1 | h1
 ·
  exact hn j h1
 ·
  obtain rfl : j = i := by omega
  rw [kid_yes h]
  exact hf
theorem hit_yes {sd : SD} {good : PathD → Bool} {f : Nat} {p x : PathD} {i : Nat} (h : (nextF sd p (i : Int)).2 = true) (hf : findF sd good f (nextF sd p (i : Int)).1 = some x) : (kid sd (f + 1) p i).find? good = some x := by
 rw [kid_yes h]
 exact hf
theorem first_find {sd : SD} {good : PathD → Bool} : firstD (some sd) good = match findF sd good sd.calls.length PathD.start with
 | some x => (x, 0)
 | none => (PathD.zero, 2) := rfl
end Go.Proofs.YtpehmmdbjakkpaaGreat
namespace Go.Proofs.YtpehmmdbjakkpaaGreat
open Go.RowKit Go.Shelf
theorem Kept.set4 {w W : World} {T : Nat → Prop} (h : Kept w T W) {b : Nat} (hp : w.heap.size ≤ b ∨ ¬ T b) (v0 v1 v2 v3 : Value) : Kept w T (set4 W b v0 v1 v2 v3) := (((h.setCell (p := ⟨b, 0, none⟩) hp v0).setCell (p := ⟨b, 1, none⟩) hp v1).setCell (p := ⟨b, 2, none⟩) hp v2).setCell (p := ⟨b, 3, none⟩) hp v3
def RCallsPost (w : World) (r : Option SD) (e : Ending) (w' : World) : Prop := match r with
 | none => e = .returned (.tuple #[.slice none 0 0, .int .i64 1]) ∧ Below w.heap.size w w'
 | some sd => ∃ v, e = .returned (.tuple #[v, .int .i64 0]) ∧ Row tCall w' (fun _ => True) v sd.calls ∧ Below w.heap.size w w'
set_option maxRecDepth 100000 in
set_option maxHeartbeats 8000000 in
theorem rcalls_calls (w : World) (c : CfgD) (v : Value) (l : List EvD) (h : Row tEv w (fun _ => True) v l) (hlen : l.length ≤ 1000000) (hok : ∀ x ∈ l, okI x.th) : Calls Tryz.prog 22 #[c.val, v] w (RCallsPost w (startD c l)) := by
 obtain ⟨A, cA, rfl⟩ := h.slice
 have H := Lib.hid h
 have HO := Lib.hid hok
 clear h hok
 unfold CfgD.val
 obtain ⟨W0, hW⟩ : ∃ W0, W0 = w.alloc (.cells #[.int .i64 c.nodes, .int .i64 c.edges, .int .i64 c.props, .int .i64 c.ids, .int .i64 c.eids] 23) := ⟨_, rfl⟩
 have hb0 : Below w.heap.size w W0 := by rw [hW]; exact (Below.refl _ w).alloc (Nat.le_refl _) _
 have B0 := Lib.hid (show Box5 W0 w.heap.size _ _ _ _ _ from by rw [hW]; exact Box5.made w 23 (.int .i64 c.nodes) (.int .i64 c.edges) (.int .i64 c.props) (.int .i64 c.ids) (.int .i64 c.eids))
 have s0 : w.heap.size < W0.heap.size := by rw [hW]; simp
 have K0 := Lib.hid hb0
 clear hb0
 go_enter Tryz.func22, Tryz.ntmps22
 go_wp2_with fail
 rw [← hW]
 clear hW
 refine (refCalls_calls W0 _ l (H.out.below K0.out) hlen HO.out).mono ?_
 rintro e w1 ⟨v1, rfl, hr, hb⟩
 have K1 := Lib.hid (K0.out.trans (hb.mono K0.out.size))
 have B1' := Lib.hid (B0.out.keep (hb.block _ s0))
 have s1 := hb.size
 have HR := Lib.hid hr
 have l1 : w.heap.size < w1.heap.size := by omega
 clear hr hb B0 K0
 obtain ⟨q0, q1, q2, q3, q4, qf⟩ := B1'.out
 cases hl : runL l with
 | none =>
  have HS := Lib.hid (show startD c l = none from by unfold startD; rw [hl])
  rw [hl] at HR
  obtain ⟨A1, c1, rfl⟩ := HR.out.slice
  clear HR hl
  simp only [errOf, outOf, List.length_nil]
  go_wp2_with fail
  refine (ref03_calls w1 c).mono ?_
  rintro e w2 ⟨x, rfl, hx, hb⟩
  have K2 := Lib.hid (K1.out.trans (hb.mono K1.out.size))
  clear hb q0 q1 q2 q3 q4 qf
  rcases hx with ⟨rfl, hc⟩ | ⟨rfl, hc⟩
  ·
   go_wp2
   refine bodyPost_ret (v := .tuple #[.slice none 0 0, .int .i64 1]) (by simp [results, Tryz.results22, go_sem]) rfl ?_
   rw [HS.out]
   exact ⟨rfl, K2.out⟩
  ·
   go_wp2
   refine bodyPost_ret (v := .tuple #[.slice none 0 0, .int .i64 1]) (by simp [results, Tryz.results22, go_sem]) rfl ?_
   rw [HS.out]
   exact ⟨rfl, K2.out⟩
 | some st =>
  have HL := Lib.hid hl
  rw [hl] at HR
  clear hl
  obtain ⟨n, hn⟩ : ∃ n, n = st.out.length := ⟨_, rfl⟩
  have HN := Lib.hid hn
  simp only [outOf] at HR
  obtain ⟨A1, c1, rfl⟩ := HR.out.slice
  rw [← hn] at HR
  simp only [errOf, outOf]
  rw [← hn]
  clear hn
  go_wp2_with fail
  refine (ref03_calls w1 c).mono ?_
  rintro e w2 ⟨x, rfl, hx, hb⟩
  have K2 := Lib.hid (K1.out.trans (hb.mono K1.out.size))
  have HR2 := Lib.hid (HR.out.below hb)
  clear hb q0 q1 q2 q3 q4 qf HR
  rcases hx with ⟨rfl, hc⟩ | ⟨rfl, hc⟩
  case inr =>
   have HS := Lib.hid (show startD c l = none from by unfold startD; rw [HL.out]; simp only; rw [if_neg (fun h => hc h.1)])
   clear hc
   go_wp2
   refine bodyPost_ret (v := .tuple #[.slice none 0 0, .int .i64 1]) (by simp [results, Tryz.results22, go_sem]) rfl ?_
   rw [HS.out]
   exact ⟨rfl, K2.out⟩
  by_cases hn : (10 : Int) < (n : Int)
  case pos =>
   have HS := Lib.hid (show startD c l = none from by unfold startD; rw [HL.out]; simp only; rw [if_neg (fun h => by have := h.2; have := HN.out; omega)])
   clear hc
   go_wp2
   refine bodyPost_ret (v := .tuple #[.slice none 0 0, .int .i64 1]) (by simp [results, Tryz.results22, go_sem]) rfl ?_
   rw [HS.out]
   exact ⟨rfl, K2.out⟩
  have HS := Lib.hid (show startD c l = some ⟨c, st.out, (st.out.length : Int) - pendOf st.out⟩ from by unfold startD; rw [HL.out]; simp only; rw [if_pos ⟨hc, by have := HN.out; omega⟩])
  clear hc
  go_wp2
  refine bodyPost_ret (v := .tuple #[.slice A1 n c1, .int .i64 0]) (by simp [results, Tryz.results22, go_sem]) rfl ?_
  rw [HS.out]
  exact ⟨_, rfl, HR2.out, K2.out⟩
theorem cntF_take {sd : SD} {order : List Int} {k : Nat} {x : Int} (h : order[k]? = some x) : cntF sd (order.take (k + 1)) = cntF sd (order.take k) + if 0 ≤ toOf sd x then 1 else 0 := by
 rw [List.take_add_one, h]
 exact cntF_snoc sd _ x
theorem cntF_len (sd : SD) (order : List Int) : cntF sd order ≤ order.length := List.length_filter_le _ _
set_option maxRecDepth 100000 in
set_option maxHeartbeats 8000000 in
theorem left_calls (w : World) (S S' : Nat → Prop) (sd : SD) (vA vP : Value) (order : List Int) (hA : Row tCall w S vA sd.calls) (hP : Row tInt w S' vP order) (hin : InR sd order) (hcl : sd.calls.length ≤ 1000) (hol : order.length ≤ 1000) : Calls Tryz.prog 25 #[vA, vP] w fun e w' => e = .returned (.int .i64 (leftI sd order)) ∧ Below w.heap.size w w' := by
 obtain ⟨A, cA, rfl⟩ := hA.slice
 obtain ⟨B, cB, rfl⟩ := hP.slice
 have HA := Lib.hid hA
 have HP := Lib.hid hP
 have HIN := Lib.hid hin
 clear hA hP hin
 obtain ⟨n, hn⟩ : ∃ n, n = order.length := ⟨_, rfl⟩
 obtain ⟨N, hN⟩ : ∃ N, N = sd.calls.length := ⟨_, rfl⟩
 rw [← hn] at hol ⊢
 rw [← hN] at hcl ⊢
 rw [← hn] at HP
 rw [← hN] at HA
 have HN := Lib.hid hN
 have Hn := Lib.hid hn
 clear hn hN
 obtain ⟨pd, hpd⟩ : ∃ pd, pd = pendOf sd.calls := ⟨_, rfl⟩
 have hp0 := pendOf_nonneg sd.calls
 have hp1 : pd ≤ (N : Int) := by
  have := pendOf_le sd.calls N
  rw [HN.out, List.take_length] at this
  rw [hpd, HN.out]
  exact this
 rw [← hpd] at hp0
 have HPD := Lib.hid hpd
 clear hpd
 go_enter Tryz.func25, Tryz.ntmps25
 go_wp2_with fail
 refine (refPending_calls w S _ sd.calls HA.out).mono ?_
 rintro e w1 ⟨rfl, hb⟩
 rw [← HPD.out]
 have K1 := Lib.hid hb
 have HA1 := Lib.hid (HA.out.below hb)
 have HP1 := Lib.hid (HP.out.below hb)
 clear hb
 go_wp2
 go_loopw [5, 15] (fun s i wr => ∃ k : Nat, k ≤ n ∧ i = .int .i64 (k : Int) ∧ s = .int .i64 ((N : Int) - pd - (cntF sd (order.take k) : Int)) ∧ Hid (Below w1.heap.size w1 wr)) (fun _ i _ => n - (intOf i).toNat)
 case atStart => exact ⟨0, Nat.zero_le _, rfl, by simp [cntF], Below.refl _ _⟩
 case round =>
  obtain ⟨k, hk, rfl, rfl, hb⟩ := hrel
  have hwr := hb.out.size
  by_cases hlt : k < n
  ·
   obtain ⟨x, hx⟩ := getElem?_of_lt (show k < order.length by have := Hn.out; omega)
   obtain ⟨h0, h1⟩ := HIN.out x (List.mem_of_getElem? hx)
   obtain ⟨m, rfl⟩ : ∃ m : Nat, x = (m : Int) := ⟨x.toNat, (Int.toNat_of_nonneg h0).symm⟩
   obtain ⟨d, hd⟩ := getElem?_of_lt (show m < sd.calls.length by omega)
   obtain ⟨b, off, rfl, _, hbl, x0⟩ := (HP1.out.below hb.out).atInt hx
   obtain ⟨b', off', a1, d1, a2, d2, a3, d3, rfl, hbl', _, y0, y1, y2, y3, y4, y5, y6, y7, y8, y9, y10, y11, y12⟩ := (HA1.out.below hb.out).atCallF hd
   have hto := toOf_at hd
   have HC := Lib.hid (cntF_take (sd := sd) hx)
   have hmN : m < N := by have := HN.out; omega
   have hmN' : (m : Int) < (N : Int) := by omega
   have hll : (k : Int) < (n : Int) := by omega
   have hcl2 : cntF sd (order.take k) ≤ k := by have := cntF_len sd (order.take k); rw [List.length_take] at this; omega
   obtain ⟨t, ht⟩ : ∃ t, t = cntF sd (order.take k) := ⟨_, rfl⟩
   rw [← ht] at hcl2 HC ⊢
   rw [hto] at HC
   clear hx hd ht hto h0 h1
   by_cases hz : 0 ≤ d.to
   ·
    rw [if_pos hz] at HC
    go_wp2
    go_roundw
    case rel => exact ⟨k + 1, by omega, by first | (go_num; done) | (go_num; omega), by rw [HC.out]; first | (go_num; done) | (go_num; omega) | (congr 1; omega), hb.out⟩
    case measure => simp [intOf]; omega
   ·
    rw [if_neg hz] at HC
    go_wp2
    go_roundw
    case rel => exact ⟨k + 1, by omega, by first | (go_num; done) | (go_num; omega), by rw [HC.out]; rfl, hb.out⟩
    case measure => simp [intOf]; omega
  ·
   obtain rfl : k = n := by omega
   have HT := Lib.hid (show order.take k = order from by rw [Hn.out, List.take_length])
   go_wp2
   go_ret
   exact ⟨by unfold leftI; rw [HT.out, ← HN.out, ← HPD.out]; rfl, K1.out.trans (hb.out.mono K1.out.size)⟩
theorem rnew_calls (w : World) : Calls Tryz.prog 23 #[] w fun e w' => e = .returned (.agg #[.slice none 0 0, .slice none 0 0, .int .i64 1, .int .i64 1]) ∧ Below w.heap.size w w' := by
 go_enter Tryz.func23, Tryz.ntmps23
 go_wp2
 refine bodyPost_ret (v := .agg #[.slice none 0 0, .slice none 0 0, .int .i64 1, .int .i64 1]) (by simp [results, Tryz.results23, go_sem]; try rfl) rfl ⟨rfl, (Below.refl _ _).alloc (Nat.le_refl _) _⟩
theorem start_need {c : CfgD} {l : List EvD} {sd : SD} (h : startD c l = some sd) : sd.need = (sd.calls.length : Int) - pendOf sd.calls := by
 obtain ⟨st, _, _, _, rfl⟩ := startD_some h
 rfl
theorem few12_ok {l : List EvD} {m : Int} (hm : m ≤ 100) (h : fewOf l m = true) : (∀ x ∈ l, x.res.few) ∧ l.length ≤ 1000000 := by
 unfold fewOf at h
 simp only [Bool.and_eq_true, decide_eq_true_eq, List.all_eq_true] at h
 refine ⟨fun x hx => ?_, by omega⟩
 obtain ⟨a, b, c⟩ := h.1 x hx
 exact ⟨by omega, by omega, by omega⟩
end Go.Proofs.YtpehmmdbjakkpaaGreat
namespace Go.Proofs.YtpehmmdbjakkpaaGreat
open Go.RowKit Go.Shelf
def StepPost (w : World) (r : PathD × Bool) (e : Ending) (w' : World) : Prop := ∃ A1 n1 k1 A2 n2 k2 gn ge, e = .returned (.tuple #[.agg #[.slice A1 n1 k1, .slice A2 n2 k2, .int .i64 gn, .int .i64 ge], .bool r.2]) ∧ (r.2 = true → gn = r.1.g.nn ∧ ge = r.1.g.ne ∧ Gr w' (fun k => w.heap.size ≤ k) r.1.g (.slice A1 n1 k1) (.slice A2 n2 k2)) ∧ Below w.heap.size w w'
theorem StepPost.bad {w W : World} {r : PathD × Bool} {A1 A2 : Option Addr} {n1 k1 n2 k2 : Nat} {gn ge : Int} (h : r.2 = false) (hb : Below w.heap.size w W) : StepPost w r (.returned (.tuple #[.agg #[.slice A1 n1 k1, .slice A2 n2 k2, .int .i64 gn, .int .i64 ge], .bool false])) W := ⟨A1, n1, k1, A2, n2, k2, gn, ge, by rw [h], fun e => by (rw [h] at e; cases e), hb⟩
theorem any_take {order : List Int} {m : Nat} {y k : Int} (h : order[m]? = some y) : ((order.take (m + 1)).any fun z => z == k) = (((order.take m).any fun z => z == k) || (y == k)) := by
 rw [List.take_add_one, h, List.any_append]
 simp
theorem any_yes {order : List Int} {k : Int} (h : (order.any fun z => z == k) = true) : k ∈ order := by
 obtain ⟨z, hz, e⟩ := List.any_eq_true.1 h
 rw [beq_iff_eq] at e
 exact e ▸ hz
theorem any_not {order : List Int} {k : Int} (h : (order.any fun z => z == k) = false) : k ∉ order := fun hm => by
 have := List.any_eq_false.1 h k hm
 simp at this
theorem fits_uniq {c : CfgD} {g : GraphD} {o : OpD} {r : ResD} {z : GraphD} {b : Bool} (h : FitsD c g o r z b) : fitsF c g o r = (z, b) := by
 unfold fitsF
 rcases h with ⟨h1, h2, h3⟩ | ⟨h1, h2, h3⟩
 ·
  rw [if_pos h1, h2, h3]
 ·
  rw [if_neg h1, h2]
  congr 1
  exact Bool.eq_iff_iff.2 (by rw [decide_eq_true_iff]; exact h3.symm)
structure SB (w : World) (c : CfgD) (g : GraphD) (vn ve : Value) (W : World) : Prop where
 K : Below w.heap.size w W
 hl : w.heap.size + 3 ≤ W.heap.size
 cf : Box5 W w.heap.size (.int .i64 c.nodes) (.int .i64 c.edges) (.int .i64 c.props) (.int .i64 c.ids) (.int .i64 c.eids)
 bg : Box4 W (w.heap.size + 1) vn ve (.int .i64 g.nn) (.int .i64 g.ne)
 b0 : Box4 W (w.heap.size + 1 + 1) (.slice none 0 0) (.slice none 0 0) (.int .i64 0) (.int .i64 0)
theorem SB.below {w : World} {c : CfgD} {g : GraphD} {vn ve : Value} {W W' : World} (h : SB w c g vn ve W) (hb : Below W.heap.size W W') : SB w c g vn ve W' := by
 have h1 := h.hl
 exact ⟨h.K.trans (hb.mono h.K.size), Nat.le_trans h1 hb.size, h.cf.keep (hb.block _ (by omega)), h.bg.keep (hb.block _ (by omega)), h.b0.keep (hb.block _ (by omega))⟩
theorem SB.move {w : World} {c : CfgD} {g : GraphD} {vn ve : Value} {W W' : World} (h : SB w c g vn ve W) (hK : Below w.heap.size w W') (hz : W.heap.size ≤ W'.heap.size) (hs : ∀ j, j < w.heap.size + 3 → W'.heap[j]? = W.heap[j]?) : SB w c g vn ve W' :=
 ⟨hK, Nat.le_trans h.hl hz, h.cf.keep (hs _ (by omega)), h.bg.keep (hs _ (by omega)), h.b0.keep (hs _ (by omega))⟩
def set5 (W : World) (b : Nat) (u0 u1 u2 u3 u4 : Value) : World := ((((W.setCell ⟨b, 0, none⟩ u0).setCell ⟨b, 1, none⟩ u1).setCell ⟨b, 2, none⟩ u2).setCell ⟨b, 3, none⟩ u3).setCell ⟨b, 4, none⟩ u4
theorem set5_heap (W : World) (b : Nat) (u0 u1 u2 u3 u4 : Value) (k : Nat) (hk : k ≠ b) : (set5 W b u0 u1 u2 u3 u4).heap[k]? = W.heap[k]? := by
 unfold set5
 rw [Below.heap_setCell _ ⟨b, 4, none⟩ _ k hk, Below.heap_setCell _ ⟨b, 3, none⟩ _ k hk, Below.heap_setCell _ ⟨b, 2, none⟩ _ k hk, Below.heap_setCell _ ⟨b, 1, none⟩ _ k hk, Below.heap_setCell _ ⟨b, 0, none⟩ _ k hk]
theorem set5_size (W : World) (b : Nat) (u0 u1 u2 u3 u4 : Value) : (set5 W b u0 u1 u2 u3 u4).heap.size = W.heap.size := by simp [set5]
theorem Kept.set5 {w W : World} {T : Nat → Prop} (h : Kept w T W) {b : Nat} (hp : w.heap.size ≤ b ∨ ¬ T b) (v0 v1 v2 v3 v4 : Value) : Kept w T (set5 W b v0 v1 v2 v3 v4) := ((((h.setCell (p := ⟨b, 0, none⟩) hp v0).setCell (p := ⟨b, 1, none⟩) hp v1).setCell (p := ⟨b, 2, none⟩) hp v2).setCell (p := ⟨b, 3, none⟩) hp v3).setCell (p := ⟨b, 4, none⟩) hp v4
theorem set5_below {B : Nat} {w0 W : World} {b : Nat} (h : Below B w0 W) (hb : B ≤ b) (u0 u1 u2 u3 u4 : Value) : Below B w0 (set5 W b u0 u1 u2 u3 u4) := ((((h.setCell hb u0).setCell hb u1).setCell hb u2).setCell hb u3).setCell hb u4
theorem thn {X Z Z' : World} (h : Hid (Below X.heap.size X Z)) (hb : Below Z.heap.size Z Z') : Hid (Below X.heap.size X Z') := Lib.hid (h.out.trans (hb.mono h.out.size))
theorem kp {w W : World} (h : Below w.heap.size w W) : Kept w (fun _ => True) W := ⟨h.size, fun j _ hl => h.block j hl⟩
theorem SB.put4 {w X : World} {c : CfgD} {g : GraphD} {vn ve : Value} {Z : World} {b bR : Nat} {u0 u1 u2 u3 r0 r1 r2 r3 r4 : Value} {h : GraphD} {zn ze : Value} {lo hi : Nat} (hS : SB w c g vn ve Z) (hX : Below X.heap.size X Z) (hb : w.heap.size + 3 ≤ b) (hv : X.heap.size ≤ b) (hG : Box4 Z b u0 u1 u2 u3) (hR : Box5 Z bR r0 r1 r2 r3 r4) (hne : ¬ bR = b) (hg : Gr Z (fun j => lo ≤ j ∧ j < hi) h zn ze) (hlo : b < lo ∨ hi ≤ b) (v0 v1 v2 v3 : Value) :
  Hid (SB w c g vn ve (set4 Z b v0 v1 v2 v3)) ∧ Hid (Below X.heap.size X (set4 Z b v0 v1 v2 v3)) ∧ Hid (Box4 (set4 Z b v0 v1 v2 v3) b v0 v1 v2 v3) ∧ Hid (Box5 (set4 Z b v0 v1 v2 v3) bR r0 r1 r2 r3 r4) ∧ Hid (Gr (set4 Z b v0 v1 v2 v3) (fun j => lo ≤ j ∧ j < hi) h zn ze) ∧ Z.heap.size ≤ (set4 Z b v0 v1 v2 v3).heap.size :=
 ⟨Lib.hid (hS.move (set4_below hS.K (by omega) _ _ _ _) (by rw [set4_size]; exact Nat.le_refl _) fun j hj => set4_heap _ _ _ _ _ _ _ (by omega)), Lib.hid (set4_below hX hv _ _ _ _), Lib.hid (hG.set _ _ _ _), Lib.hid (hR.keep (set4_heap _ _ _ _ _ _ _ hne)), Lib.hid (hg.move fun j hj _ => set4_heap _ _ _ _ _ _ _ (by (try simp only at hj); omega)), by rw [set4_size]; exact Nat.le_refl _⟩
theorem SB.put5 {w X : World} {c : CfgD} {g : GraphD} {vn ve : Value} {Z : World} {b bG : Nat} {u0 u1 u2 u3 : Value} {h : GraphD} {zn ze : Value} {lo hi : Nat} (hS : SB w c g vn ve Z) (hX : Below X.heap.size X Z) (hb : w.heap.size + 3 ≤ b) (hv : X.heap.size ≤ b) (hG : Box4 Z bG u0 u1 u2 u3) (hne : ¬ bG = b) (hg : Gr Z (fun j => lo ≤ j ∧ j < hi) h zn ze) (hlo : b < lo ∨ hi ≤ b) (v0 v1 v2 v3 v4 : Value) :
  Hid (SB w c g vn ve (set5 Z b v0 v1 v2 v3 v4)) ∧ Hid (Below X.heap.size X (set5 Z b v0 v1 v2 v3 v4)) ∧ Hid (Box4 (set5 Z b v0 v1 v2 v3 v4) bG u0 u1 u2 u3) ∧ Hid (Gr (set5 Z b v0 v1 v2 v3 v4) (fun j => lo ≤ j ∧ j < hi) h zn ze) ∧ Z.heap.size ≤ (set5 Z b v0 v1 v2 v3 v4).heap.size :=
 ⟨Lib.hid (hS.move (set5_below hS.K (by omega) _ _ _ _ _) (by rw [set5_size]; exact Nat.le_refl _) fun j hj => set5_heap _ _ _ _ _ _ _ _ (by omega)), Lib.hid (set5_below hX hv _ _ _ _ _), Lib.hid (hG.keep (set5_heap _ _ _ _ _ _ _ _ hne)), Lib.hid (hg.move fun j hj _ => set5_heap _ _ _ _ _ _ _ _ (by (try simp only at hj); omega)), by rw [set5_size]; exact Nat.le_refl _⟩
set_option maxRecDepth 100000 in
set_option maxHeartbeats 32000000 in
theorem step_calls (w : World) (S S' S'' : Nat → Prop) (sd : SD) (p : PathD) (n : Nat) (vA vn ve vP : Value) (hA : Row tCall w S vA sd.calls) (hg : Gr w S' p.g vn ve) (hP : Row tInt w S'' vP p.order) (hu : UniqF sd) (hin : InR sd p.order) (hR : Rdy sd.c p.g) (hn : n < sd.calls.length) (hcl : sd.calls.length ≤ 1000) (hol : p.order.length ≤ 1000) : Calls Tryz.prog 24 #[sd.c.val, vA, .agg #[vn, ve, .int .i64 p.g.nn, .int .i64 p.g.ne], vP, .int .i64 (n : Int)] w (StepPost w (nextF sd p (n : Int))) := by
 obtain ⟨A, cA, rfl⟩ := hA.slice
 obtain ⟨B, cB, rfl⟩ := hP.slice
 obtain ⟨⟨A3, c3, rfl⟩, ⟨A4, c4, rfl⟩⟩ := hg.slices
 have HU := Lib.hid hu
 have HIN := Lib.hid hin
 have HR := Lib.hid hR
 obtain ⟨x, hx⟩ := getElem?_of_lt hn
 have HX := Lib.hid hx
 obtain ⟨L, hL⟩ : ∃ L, L = p.order.length := ⟨_, rfl⟩
 obtain ⟨N, hN⟩ : ∃ N, N = sd.calls.length := ⟨_, rfl⟩
 rw [← hL] at hol hP ⊢
 rw [← hN] at hcl hn hA ⊢
 have HA := Lib.hid (hA.bound.mono (S' := fun j => j < w.heap.size) fun j hj _ => hj.2)
 have HP := Lib.hid hP
 have HG := Lib.hid hg
 have HL := Lib.hid hL
 have HN := Lib.hid hN
 have hni : ((n : Int) < (N : Int)) := by omega
 clear hA hg hP hu hin hR hx hL hN
 obtain ⟨W0, hW⟩ : ∃ W0, W0 = ((w.alloc (.cells #[.int .i64 sd.c.nodes, .int .i64 sd.c.edges, .int .i64 sd.c.props, .int .i64 sd.c.ids, .int .i64 sd.c.eids] 23)).alloc (.cells #[.slice A3 p.g.nodes.length c3, .slice A4 p.g.edges.length c4, .int .i64 p.g.nn, .int .i64 p.g.ne] 31)).alloc (.cells #[.slice none 0 0, .slice none 0 0, .int .i64 0, .int .i64 0] 31) := ⟨_, rfl⟩
 have hb0 : Below w.heap.size w W0 := by rw [hW]; exact (by repeat (first | exact Below.refl _ _ | refine Below.alloc ?_ (by simp; try omega) _))
 have B0 := Lib.hid (show SB w sd.c p.g (.slice A3 p.g.nodes.length c3) (.slice A4 p.g.edges.length c4) W0 from ⟨hb0, by rw [hW]; simp, Box5.of (n := 23) (by rw [hW]; exact ((Below.heap_alloc _ _ _ (by simp <;> omega)).trans (Below.heap_alloc _ _ _ (by simp))).trans (heap_alloc_new w _)), by
  rw [hW]
  have := Box4.made (w.alloc (.cells #[.int .i64 sd.c.nodes, .int .i64 sd.c.edges, .int .i64 sd.c.props, .int .i64 sd.c.ids, .int .i64 sd.c.eids] 23)) 31 (.slice A3 p.g.nodes.length c3) (.slice A4 p.g.edges.length c4) (.int .i64 p.g.nn) (.int .i64 p.g.ne)
  rw [World.size_alloc] at this
  exact this.keep (Below.heap_alloc _ _ _ (by simp)), by
  rw [hW]
  have := Box4.made ((w.alloc (.cells #[.int .i64 sd.c.nodes, .int .i64 sd.c.edges, .int .i64 sd.c.props, .int .i64 sd.c.ids, .int .i64 sd.c.eids] 23)).alloc (.cells #[.slice A3 p.g.nodes.length c3, .slice A4 p.g.edges.length c4, .int .i64 p.g.nn, .int .i64 p.g.ne] 31)) 31 (.slice none 0 0) (.slice none 0 0) (.int .i64 0) (.int .i64 0)
  rw [World.size_alloc, World.size_alloc] at this
  exact this⟩)
 have HA0 := Lib.hid (HA.out.below hb0)
 have HP0 := Lib.hid (HP.out.below hb0)
 have HG0 := Lib.hid (HG.out.below hb0)
 clear hb0 HA HP HG
 unfold CfgD.val
 go_enter Tryz.func24, Tryz.ntmps24
 go_wp2_with fail
 rw [← hW]
 clear hW
 go_loopw [23] (fun i wr => ∃ k : Nat, k ≤ L ∧ i = .int .i64 (k : Int) ∧ Hid (∀ j, j < k → p.order[j]? ≠ some (n : Int)) ∧ Hid (Below W0.heap.size W0 wr)) (fun i _ => L - (intOf i).toNat)
 case atStart => exact ⟨0, Nat.zero_le _, rfl, fun j hj => absurd hj (by omega), Below.refl _ _⟩
 case round =>
  obtain ⟨wa, rfl⟩ : ∃ wa, wa = wr := ⟨wr, rfl⟩
  obtain ⟨k, hk, rfl, hno, hb⟩ := hrel
  by_cases hlt : k < L
  ·
   obtain ⟨y, hy⟩ := getElem?_of_lt (show k < p.order.length by have := HL.out; omega)
   obtain ⟨b, off, rfl, _, hbl, x0⟩ := (HP0.out.below hb.out).atInt hy
   have HY := Lib.hid hy
   have hll : (k : Int) < (L : Int) := by omega
   clear hy
   by_cases hyn : y = (n : Int)
   ·
    subst hyn
    have HF := Lib.hid (next_nope (p := p) HX.out (ready_no1 (List.mem_of_getElem? HY.out)))
    have SBk := Lib.hid (B0.out.below hb.out)
    obtain ⟨g0, g1, g2, g3, gf⟩ := SBk.out.bg
    obtain ⟨b0, b1, b2, b3, bf⟩ := SBk.out.b0
    have lw := SBk.out.hl
    have l1 : w.heap.size + 1 < wa.heap.size := by omega
    have l2 : w.heap.size + 1 + 1 < wa.heap.size := by omega
    go_wp2
    refine bodyPost_ret (v := .tuple #[.agg #[.slice A3 p.g.nodes.length c3, .slice A4 p.g.edges.length c4, .int .i64 p.g.nn, .int .i64 p.g.ne], .bool false]) (by simp [results, Tryz.results24, go_sem, b0, b1, b2, b3]; try rfl) rfl ?_
    exact StepPost.bad HF.out (set4_below SBk.out.K (by omega) _ _ _ _)
   ·
    go_wp2
    go_roundw
    case rel => exact ⟨k + 1, by omega, by first | (go_num; done) | (go_num; omega), fun j hj => (by
     rcases Nat.lt_or_ge j k with h | h
     ·
      exact hno.out j h
     ·
      obtain rfl : j = k := by omega
      rw [HY.out]
      exact fun e => hyn (by injection e)), hb.out⟩
    case measure => simp [intOf]; omega
  obtain rfl : k = L := by omega
  have NIN := Lib.hid (show (n : Int) ∉ p.order from fun hm => by
   obtain ⟨j, hj⟩ := List.getElem?_of_mem hm
   exact hno.out j (by rw [HL.out]; exact (List.getElem?_eq_some_iff.1 hj).1) hj)
  have B1' := Lib.hid (B0.out.below hb.out)
  have HA1 := Lib.hid (HA0.out.below hb.out)
  have HP1 := Lib.hid (HP0.out.below hb.out)
  have HG1 := Lib.hid (HG0.out.below hb.out)
  clear hno hb B0 HA0 HP0 HG0 hlt
  go_wp2
  clear hk
  go_loopw [34] (fun i wr => ∃ k : Nat, k ≤ N ∧ i = .int .i64 (k : Int) ∧ Hid (∀ (j : Nat) (c : CallD), j < k → sd.calls[j]? = some c → (j : Int) ∈ p.order ∨ beforeB c x = false) ∧ Hid (Below wa.heap.size wa wr)) (fun i _ => N - (intOf i).toNat)
  case atStart => exact ⟨0, Nat.zero_le _, rfl, fun j c hj => absurd hj (by omega), Below.refl _ _⟩
  case round =>
   obtain ⟨i, hi, rfl, hno, hb⟩ := hrel
   obtain ⟨wi, rfl⟩ : ∃ wi, wi = wr := ⟨wr, rfl⟩
   have hwi := hb.out.size
   by_cases hlt : i < N
   ·
    obtain ⟨d, hd⟩ := getElem?_of_lt (show i < sd.calls.length by have := HN.out; omega)
    obtain ⟨b', off', a1, d1, a2, d2, a3, d3, rfl, hbl', _, y0, y1, y2, y3, y4, y5, y6, y7, y8, y9, y10, y11, y12⟩ := (HA1.out.below hb.out).atCallF hd
    have HD := Lib.hid hd
    have hll : (i : Int) < (N : Int) := by omega
    clear hd
    go_wp2_with fail
    obtain ⟨Wb, hWb⟩ : ∃ Wb, Wb = wi.alloc (.cells #[.int .i64 d.th, .int .i64 d.op.k, .int .i64 d.op.a, .int .i64 d.op.b, .int .i64 d.op.p, .int .i64 d.op.v, .int .i64 d.frm, .int .i64 d.to, .int .i64 d.res.st, .int .i64 d.res.id, .slice a1 d.res.ps.length d1, .slice a2 d.res.os.length d2, .slice a3 d.res.is.length d3] 70) := ⟨_, rfl⟩
    have hbb : Below wi.heap.size wi Wb := by rw [hWb]; exact (Below.refl _ wi).alloc (Nat.le_refl _) _
    have hblk := Lib.hid (show Wb.heap[wi.heap.size]? = some (.cells #[.int .i64 d.th, .int .i64 d.op.k, .int .i64 d.op.a, .int .i64 d.op.b, .int .i64 d.op.p, .int .i64 d.op.v, .int .i64 d.frm, .int .i64 d.to, .int .i64 d.res.st, .int .i64 d.res.id, .slice a1 d.res.ps.length d1, .slice a2 d.res.os.length d2, .slice a3 d.res.is.length d3] 70 (0, 0)) from by rw [hWb]; exact heap_alloc_new _ _)
    have sWb : wi.heap.size < Wb.heap.size := by rw [hWb]; simp
    have KB := Lib.hid (hb.out.trans (hbb.mono hwi))
    rw [← hWb]
    clear hWb hbb y0 y1 y2 y3 y4 y5 y6 y7 y8 y9 y10 y11 y12
    go_loopw [16, 41] (fun t m wc => ∃ (q : Nat) (bb : Bool), q ≤ k ∧ m = .int .i64 (q : Int) ∧ t = .bool bb ∧ Hid (bb = (p.order.take q).any fun z => z == (i : Int)) ∧ Hid (Below Wb.heap.size Wb wc)) (fun _ m _ => k - (intOf m).toNat)
    case atStart => exact ⟨0, false, Nat.zero_le _, rfl, rfl, Lib.hid (by simp), Below.refl _ _⟩
    case round =>
     obtain ⟨q, bb, hq, rfl, rfl, hbb, hc⟩ := hrel
     obtain ⟨wc, rfl⟩ : ∃ wc, wc = wr := ⟨wr, rfl⟩
     have hwc := hc.out.size
     by_cases hlq : q < k
     ·
      obtain ⟨y, hy⟩ := getElem?_of_lt (show q < p.order.length by have := HL.out; omega)
      obtain ⟨b2, off2, rfl, _, hbl2, z0⟩ := ((HP1.out.below KB.out).below hc.out).atInt hy
      have HY := Lib.hid (any_take (k := (i : Int)) hy)
      have hql : (q : Int) < (k : Int) := by omega
      clear hy
      cases bb with
      | true =>
       go_wp2
       go_roundw
       case rel => exact ⟨q + 1, true, by omega, by first | (go_num; done) | (go_num; omega), rfl, Lib.hid (by rw [HY.out, ← hbb.out]; rfl), hc.out⟩
       case measure => simp [intOf]; omega
      | false =>
       go_wp2
       go_roundw
       case rel => exact ⟨q + 1, (y == (i : Int)), by omega, by first | (go_num; done) | (go_num; omega), rfl, Lib.hid (by rw [HY.out, ← hbb.out]; simp), hc.out⟩
       case measure => simp [intOf]; omega
     obtain rfl : q = k := by omega
     have hany : bb = p.order.any fun z => z == (i : Int) := by have := hbb.out; rw [HL.out, List.take_length] at this; exact this
     have HB := Lib.hid hany
     clear hbb hany hlq
     have e : ∀ o, wc.cell? ⟨wi.heap.size, o, none⟩ = (#[.int .i64 d.th, .int .i64 d.op.k, .int .i64 d.op.a, .int .i64 d.op.b, .int .i64 d.op.p, .int .i64 d.op.v, .int .i64 d.frm, .int .i64 d.to, .int .i64 d.res.st, .int .i64 d.res.id, .slice a1 d.res.ps.length d1, .slice a2 d.res.os.length d2, .slice a3 d.res.is.length d3] : Array Value)[o]? := fun o => by
      have := (hc.out.block _ sWb).trans hblk.out
      simp [World.cell?, this]
     obtain ⟨e0, e1, e2, e3, e4, e5, e6, e7, e8, e9, e10, e11, e12⟩ : _ ∧ _ ∧ _ ∧ _ ∧ _ ∧ _ ∧ _ ∧ _ ∧ _ ∧ _ ∧ _ ∧ _ ∧ _ := ⟨(e 0).trans rfl, (e 1).trans rfl, (e 2).trans rfl, (e 3).trans rfl, (e 4).trans rfl, (e 5).trans rfl, (e 6).trans rfl, (e 7).trans rfl, (e 8).trans rfl, (e 9).trans rfl, (e 10).trans rfl, (e 11).trans rfl, (e 12).trans rfl⟩
     have lc : wi.heap.size < wc.heap.size := by omega
     obtain ⟨b3, off3, f1, t1, f2, t2, f3, t3, hA3, hbl3, _, x0, x1, x2, x3, x4, x5, x6, x7, x8, x9, x10, x11, x12⟩ := ((HA1.out.below KB.out).below hc.out).atCallF HX.out
     injection hA3 with hA3
     injection hA3 with hA4 hA5
     subst hA4 hA5
     have KC := Lib.hid (KB.out.trans (hc.out.mono KB.out.size))
     clear e hc
     cases bb with
     | true =>
      have MEM := Lib.hid (any_yes HB.out.symm)
      go_wp2_with fail
      refine wp_region_schedK (fun _ => True) [(0, true), (1, true), (2, true), (3, true), (4, true), (5, true), (6, true), (7, true), (8, false), (9, true)] (by kernel_rfl) (by kernel_rfl) (fun hS => ?_)
      have HK := Lib.hid hS
      clear hS
      have KD := Lib.hid (Below.refl wc.heap.size wc).drew
      revert HK KD
      generalize wc.drew = Wd
      intro HK KD
      repeat (first | (refine sched_take (v := ?_) (by simp only [opT, opS, opZ]; rfl) (Or.inl ⟨by rfl, fun W hW => ?_⟩) HK.out ?_; rotate_left; (have hc := fun b o hb => hW.cell b o trivial hb; clear hW; go_simp; with_reducible rfl); simp only [Act.put, putT, putZ, putS]) | (refine sched_take (by simp only [opT, opS, opZ]; rfl) (Or.inr ⟨by rfl, rfl⟩) HK.out ?_; simp only [Act.put, putT, putZ, putS]))
      refine sched_step (by simp only [opT, opS, opZ]; rfl) ?_
      go_wp2_with fail
      refine sched_on HK.out ?_
      repeat (first | (refine sched_take (v := ?_) (by simp only [opT, opS, opZ]; rfl) (Or.inl ⟨by rfl, fun W hW => ?_⟩) HK.out ?_; rotate_left; (have hc := fun b o hb => hW.cell b o trivial hb; clear hW; go_simp; with_reducible rfl); simp only [Act.put, putT, putZ, putS]) | (refine sched_take (by simp only [opT, opS, opZ]; rfl) (Or.inr ⟨by rfl, rfl⟩) HK.out ?_; simp only [Act.put, putT, putZ, putS]))
      refine sched_done ?_
      go_wp2
      go_roundw
      case rel => exact ⟨i + 1, by omega, by first | (go_num; done) | (go_num; omega), fun j c hj hc => (by
       rcases Nat.lt_or_ge j i with h | h
       ·
        exact hno.out j c h hc
       ·
        obtain rfl : j = i := by omega
        exact .inl MEM.out), KC.out.trans (KD.out.mono KC.out.size)⟩
      case measure => simp [intOf]; omega
     | false =>
      have MEM := Lib.hid (any_not HB.out.symm)
      go_wp2_with fail
      refine wp_region_schedK (fun _ => True) [(0, true), (1, true), (2, true), (3, true), (4, true), (5, true), (6, true), (7, true), (8, false), (9, true)] (by kernel_rfl) (by kernel_rfl) (fun hS => ?_)
      have HK := Lib.hid hS
      clear hS
      have KD := Lib.hid (Below.refl wc.heap.size wc).drew
      revert HK KD
      generalize wc.drew = Wd
      intro HK KD
      repeat (first | (refine sched_take (v := ?_) (by simp only [opT, opS, opZ]; rfl) (Or.inl ⟨by rfl, fun W hW => ?_⟩) HK.out ?_; rotate_left; (have hc := fun b o hb => hW.cell b o trivial hb; clear hW; go_simp; with_reducible rfl); simp only [Act.put, putT, putZ, putS]) | (refine sched_take (by simp only [opT, opS, opZ]; rfl) (Or.inr ⟨by rfl, rfl⟩) HK.out ?_; simp only [Act.put, putT, putZ, putS]))
      refine sched_step (by simp only [opT, opS, opZ]; rfl) ?_
      go_wp2_with fail
      refine (refBefore_calls Wd d x _ _ _ _ _ _).mono ?_
      rintro e wz ⟨rfl, hb2⟩
      have HK2 := Lib.hid (HK.out.below hb2)
      have KZ := Lib.hid (KC.out.trans ((KD.out.trans (hb2.mono KD.out.size)).mono KC.out.size))
      clear hb2 HK KD
      cases hbe : beforeB d x with
      | true =>
       have HF := Lib.hid (next_nope (p := p) HX.out (ready_no2 HU.out HIN.out HX.out HD.out hbe MEM.out))
       clear hbe
       go_wp2_with fail
       refine sched_on HK2.out ?_
       repeat (first | (refine sched_take (v := ?_) (by simp only [opT, opS, opZ]; rfl) (Or.inl ⟨by rfl, fun W hW => ?_⟩) HK2.out ?_; rotate_left; (clear hW; go_simp; with_reducible rfl); simp only [Act.put, putT, putZ, putS]) | (refine sched_take (by simp only [opT, opS, opZ]; rfl) (Or.inr ⟨by rfl, rfl⟩) HK2.out ?_; simp only [Act.put, putT, putZ, putS]))
       refine sched_done ?_
       have SBk := Lib.hid (B1'.out.below KZ.out)
       obtain ⟨g0, g1, g2, g3, gf⟩ := SBk.out.bg
       obtain ⟨b0, b1, b2, b3, bf⟩ := SBk.out.b0
       have lw := SBk.out.hl
       have l1 : w.heap.size + 1 < wz.heap.size := by omega
       have l2 : w.heap.size + 1 + 1 < wz.heap.size := by omega
       clear e0 e1 e2 e3 e4 e5 e6 e7 e8 e9 e10 e11 e12 x0 x1 x2 x3 x4 x5 x6 x7 x8 x9 x10 x11 x12
       go_wp2
       refine bodyPost_ret (v := .tuple #[.agg #[.slice A3 p.g.nodes.length c3, .slice A4 p.g.edges.length c4, .int .i64 p.g.nn, .int .i64 p.g.ne], .bool false]) (by simp [results, Tryz.results24, go_sem, b0, b1, b2, b3]; try rfl) rfl ?_
       exact StepPost.bad HF.out (set4_below SBk.out.K (by omega) _ _ _ _)
      | false =>
       have HBE := Lib.hid hbe
       clear hbe
       go_wp2_with fail
       refine sched_on HK2.out ?_
       repeat (first | (refine sched_take (v := ?_) (by simp only [opT, opS, opZ]; rfl) (Or.inl ⟨by rfl, fun W hW => ?_⟩) HK2.out ?_; rotate_left; (clear hW; go_simp; with_reducible rfl); simp only [Act.put, putT, putZ, putS]) | (refine sched_take (by simp only [opT, opS, opZ]; rfl) (Or.inr ⟨by rfl, rfl⟩) HK2.out ?_; simp only [Act.put, putT, putZ, putS]))
       refine sched_done ?_
       clear e0 e1 e2 e3 e4 e5 e6 e7 e8 e9 e10 e11 e12 x0 x1 x2 x3 x4 x5 x6 x7 x8 x9 x10 x11 x12
       go_wp2
       go_roundw
       case rel => exact ⟨i + 1, by omega, by first | (go_num; done) | (go_num; omega), fun j c hj hc => (by
        rcases Nat.lt_or_ge j i with h | h
        ·
         exact hno.out j c h hc
        ·
         obtain rfl : j = i := by omega
         rw [HD.out] at hc
         injection hc with hc
         subst hc
         exact .inr HBE.out), KZ.out⟩
       case measure => simp [intOf]; omega
   obtain rfl : i = N := by omega
   have RDY := Lib.hid (ready_yes (order := p.order) HX.out NIN.out fun j c hc => hno.out j c (by rw [HN.out]; exact (List.getElem?_eq_some_iff.1 hc).1) hc)
   have NX := Lib.hid (next_yes (p := p) HX.out RDY.out)
   have B2 := Lib.hid (B1'.out.below hb.out)
   have HG2 := Lib.hid (HG1.out.below hb.out)
   obtain ⟨b3, off3, f1, t1, f2, t2, f3, t3, rfl, hbl3, hsl, x0, x1, x2, x3, x4, x5, x6, x7, x8, x9, x10, x11, x12⟩ := ((HA1.out.bound.mono (S' := fun j => j < w.heap.size) fun j hj _ => hj.1).below hb.out).atCallF HX.out
   have HSL := Lib.hid hsl
   obtain ⟨bA, offA, _, hAe, hSA, _, _, _⟩ := (HA1.out.below hb.out).at HX.out
   have lA : b3 < w.heap.size := by
    injection hAe with hAe
    injection hAe with h1 h2
    subst h1
    exact hSA
   have lw := B2.out.hl
   clear hno hb B1' HA1 HP1 HG1 hlt hsl hAe hSA hwi
   obtain ⟨q0, q1, q2, q3, q4, qf⟩ := B2.out.cf
   obtain ⟨g0, g1, g2, g3, gf⟩ := B2.out.bg
   have l0 : w.heap.size < wi.heap.size := by omega
   have l1 : w.heap.size + 1 < wi.heap.size := by omega
   have l2 : w.heap.size + 1 + 1 < wi.heap.size := by omega
   by_cases hto : x.to < 0
   ·
    obtain ⟨D, hD⟩ : ∃ D, D = doOf sd.c p.g x.op := ⟨_, rfl⟩
    have hf := NX.out.trans (if_pos hto)
    rw [← hD] at hf
    have HF := Lib.hid hf
    have HD := Lib.hid hD
    clear hD hf
    go_wp2_with fail
    rename_i Kr ar
    have AR := Lib.hid ar
    clear ar
    have CUT : ∀ {u0 u1 u2 u3 u4 u5 u6 u7 u8 u9 u11 u12 u13 u14 u15 u16 u17 u18 u20 u21 u22 u23 u24 u25 u26 u27 u28 u29 u30 u31 u32 u33 u34 u35 u36 u37 u38 u39 u40 u41 u42 u43 u44 u45 u46 u47 u48 u49 u50 u51 u52 u53 u54 u55 u56 u57 u58 u59 u60 u61 u62 u63 u64 u65 u66 u67 u68 u69 u70 u71 u72 u73 u74 u75 u76 u77 u78 u79 u80 u81 u82 u83 u84 u85 u86 u87 u88 u89 u90 u91 u92 u93 u94 u95 u96 : Value} (bG : Nat) (A6 : Option Addr) (c6 : Nat) (A7 : Option Addr) (c7 : Nat) (Y : World), SB w sd.c p.g (.slice A3 p.g.nodes.length c3) (.slice A4 p.g.edges.length c4) Y → Box4 Y bG (.slice A6 D.1.nodes.length c6) (.slice A7 D.1.edges.length c7) (.int .i64 D.1.nn) (.int .i64 D.1.ne) → Gr Y (fun j => w.heap.size + 3 ≤ j) D.1 (.slice A6 D.1.nodes.length c6) (.slice A7 D.1.edges.length c7) → w.heap.size + 3 ≤ bG → bG < Y.heap.size → Kr {tmps := (u0 :: u1 :: u2 :: u3 :: u4 :: u5 :: u6 :: u7 :: u8 :: u9 :: .pointer (some ⟨w.heap.size + 1 + 1, 0, none⟩) :: u11 :: u12 :: u13 :: u14 :: u15 :: u16 :: u17 :: u18 :: .pointer (some ⟨bG, 0, none⟩) :: u20 :: u21 :: u22 :: u23 :: u24 :: u25 :: u26 :: u27 :: u28 :: u29 :: u30 :: u31 :: u32 :: u33 :: u34 :: u35 :: u36 :: u37 :: u38 :: u39 :: u40 :: u41 :: u42 :: u43 :: u44 :: u45 :: u46 :: u47 :: u48 :: u49 :: u50 :: u51 :: u52 :: u53 :: u54 :: u55 :: u56 :: u57 :: u58 :: u59 :: u60 :: u61 :: u62 :: u63 :: u64 :: u65 :: u66 :: u67 :: u68 :: u69 :: u70 :: u71 :: u72 :: u73 :: u74 :: u75 :: u76 :: u77 :: u78 :: u79 :: u80 :: u81 :: u82 :: u83 :: u84 :: u85 :: u86 :: u87 :: u88 :: u89 :: u90 :: u91 :: u92 :: u93 :: u94 :: u95 :: u96 :: []).toArray, defers := []} Y := by
     intro u0 u1 u2 u3 u4 u5 u6 u7 u8 u9 u11 u12 u13 u14 u15 u16 u17 u18 u20 u21 u22 u23 u24 u25 u26 u27 u28 u29 u30 u31 u32 u33 u34 u35 u36 u37 u38 u39 u40 u41 u42 u43 u44 u45 u46 u47 u48 u49 u50 u51 u52 u53 u54 u55 u56 u57 u58 u59 u60 u61 u62 u63 u64 u65 u66 u67 u68 u69 u70 u71 u72 u73 u74 u75 u76 u77 u78 u79 u80 u81 u82 u83 u84 u85 u86 u87 u88 u89 u90 u91 u92 u93 u94 u95 u96 bG A6 c6 A7 c7 Y hsb hbg hgr gbG lZ2
     refine AR.out _ _ ?_
     have SBZ := Lib.hid hsb
     have GRZ := Lib.hid hgr
     obtain ⟨h0, h1, h2, h3, hf⟩ := hbg
     obtain ⟨m0, m1, m2, m3, mf⟩ := hsb.b0
     have lZ := hsb.hl
     have lZ1 : w.heap.size + 1 + 1 < Y.heap.size := by omega
     clear AR Kr hsb hgr
     go_wp2
     refine bodyPost_ret (v := .tuple #[.agg #[.slice A6 D.1.nodes.length c6, .slice A7 D.1.edges.length c7, .int .i64 D.1.nn, .int .i64 D.1.ne], .bool true]) (by simp [results, Tryz.results24, go_sem, m0, m1, m2, m3]; try rfl) rfl ?_
     rw [HF.out]
     refine ⟨_, _, _, _, _, _, _, _, rfl, fun _ => ⟨rfl, rfl, ?_⟩, set4_below SBZ.out.K (by omega) _ _ _ _⟩
     exact (GRZ.out.move fun j hj _ => set4_heap _ _ _ _ _ _ _ (by (try simp only at hj); omega)).mono fun j hj _ => by (try simp only at hj ⊢); omega
    have HCUT := @Lib.hid _ @CUT
    clear CUT AR
    refine wp_region_tr3 (fun _ => True) (.take 0 (.take 1 (.take 2 (.take 3 (.take 4 (.take 5 (.take 6 (.three 7 (.take 8 (.take 9 (.take 10 (.two 11 (.step 12 (.step 13 (.step 14 .nil))) 12 (.step 11 (.step 13 (.step 14 .nil))))))) 11 (.two 7 (.take 8 (.take 9 (.take 10 (.step 12 (.step 13 (.step 14 .nil)))))) 12 (.step 7 (.take 8 (.take 9 (.take 10 (.step 13 (.step 14 .nil))))))) 12 (.two 7 (.take 8 (.take 9 (.take 10 (.step 11 (.step 13 (.step 14 .nil)))))) 11 (.step 7 (.take 8 (.take 9 (.take 10 (.step 13 (.step 14 .nil))))))))))))))) (by kernel_rfl) (by kernel_rfl) (fun hS => ?_)
    have HK0 := Lib.hid hS
    clear hS
    have KD := Lib.hid (Below.refl wi.heap.size wi).drew
    revert HK0 KD
    generalize wi.drew = Z0
    intro HK0 KD
    repeat (refine tr3_take (v := ?_) (by simp only [opT, opS, opZ]; rfl) (Or.inl ⟨by rfl, fun W hW => ?_⟩) HK0.out ?_; rotate_left; (have hc := fun b o hb => hW.cell b o trivial hb; clear hW; go_simp; with_reducible rfl); simp only [Act.put, putT, putZ, putS])
    have SB0 := Lib.hid (B2.out.below KD.out)
    have GA0 := Lib.hid (HG2.out.below KD.out)
    have s0 := KD.out.size
    have KX0 := Lib.hid KD.out
    clear KD B2 HG2 q0 q1 q2 q3 q4 qf g0 g1 g2 g3 gf x0 x1 x2 x3 x4 x5 x6 x7 x8 x9 x10 x11 x12
    refine tr3_three (by simp only [opT, opS, opZ]; rfl) ?_ (by simp only [opT, opS, opZ]; rfl) (Hid.out ?_) (by simp only [opT, opS, opZ]; rfl) (Hid.out ?_)
    ·
     skip
     go_wp2_with fail
     refine (refDo_calls Z0 _ sd.c p.g _ _ x.op GA0.out HR.out).mono ?_
     rintro e Z1 hdo
     rw [← HD.out] at hdo
     obtain ⟨un, ue, rv, rfl, hgr, hres, hb1⟩ := hdo
     obtain ⟨a1, d1, a2, d2, a3, d3, rfl, _⟩ := hres.slices
     obtain ⟨⟨A6, c6, rfl⟩, ⟨A7, c7, rfl⟩⟩ := hgr.slices
     have s1 := hb1.size
     have KX1 := thn KX0 hb1
     have SB1 := Lib.hid (SB0.out.below hb1)
     have GR1 := Lib.hid (hgr.bound.mono (S' := fun j => Z0.heap.size ≤ j ∧ j < Z1.heap.size) fun j hj _ => hj)
     clear hb1 hgr hres
     go_wp2_with fail
     refine tr_on (kp KX1.out) ?_
     repeat (refine tr_take (v := ?_) (by simp only [opT, opS, opZ]; rfl) (Or.inl ⟨by rfl, fun W hW => ?_⟩) (kp KX1.out) ?_; rotate_left; (clear hW; go_simp; with_reducible rfl); simp only [Act.put, putT, putZ, putS])
     refine tr_two (by simp only [opT, opS, opZ]; rfl) ?_ (by simp only [opT, opS, opZ]; rfl) (Hid.out ?_)
     ·
      skip
      obtain ⟨Z2, hV2⟩ : ∃ V, V = Z1.alloc (.cells #[.slice none 0 0, .slice none 0 0, .int .i64 0, .int .i64 0] 31) := ⟨_, rfl⟩
      have hb2 : Below Z1.heap.size Z1 Z2 := by rw [hV2]; exact (Below.refl _ Z1).alloc (Nat.le_refl _) _
      have s2 : Z1.heap.size < Z2.heap.size := by rw [hV2]; simp
      have KX2 := thn KX1 hb2
      have SB2 := Lib.hid (SB1.out.below hb2)
      have GR2 := Lib.hid (GR1.out.below hb2)
      have BG2 := Lib.hid (show Box4 Z2 Z1.heap.size _ _ _ _ from by rw [hV2]; exact Box4.made Z1 31 (.slice none 0 0) (.slice none 0 0) (.int .i64 0) (.int .i64 0))
      go_wp2_with fail
      rw [← hV2]
      clear hV2 hb2
      have lG2 : Z1.heap.size < Z2.heap.size := s2
      obtain ⟨bG, hbG⟩ : ∃ b, b = Z1.heap.size := ⟨_, rfl⟩
      rw [← hbG] at BG2 lG2
      simp only [← hbG]
      have gbG : w.heap.size + 3 ≤ bG := by have := SB1.out.hl; omega
      have vbG : wi.heap.size ≤ bG := by have := KX1.out.size; omega
      have ubG : Z1.heap.size ≤ bG := by omega
      clear hbG
      refine tr_on (kp KX2.out) ?_
      refine tr_step (by simp only [opT, opS, opZ]; rfl) ?_
      obtain ⟨Z3, hV3⟩ : ∃ V, V = Z2.alloc (.cells #[.int .i64 0, .int .i64 0, .slice none 0 0, .slice none 0 0, .slice none 0 0] 50) := ⟨_, rfl⟩
      have hb3 : Below Z2.heap.size Z2 Z3 := by rw [hV3]; exact (Below.refl _ Z2).alloc (Nat.le_refl _) _
      have s3 : Z2.heap.size < Z3.heap.size := by rw [hV3]; simp
      have KX3 := thn KX2 hb3
      have SB3 := Lib.hid (SB2.out.below hb3)
      have GR3 := Lib.hid (GR2.out.below hb3)
      have BG3 := Lib.hid (BG2.out.keep (hb3.block _ lG2))
      have BR3 := Lib.hid (show Box5 Z3 Z2.heap.size _ _ _ _ _ from by rw [hV3]; exact Box5.made Z2 50 (.int .i64 0) (.int .i64 0) (.slice none 0 0) (.slice none 0 0) (.slice none 0 0))
      go_wp2_with fail
      rw [← hV3]
      clear hV3 hb3
      have lR3 : Z2.heap.size < Z3.heap.size := s3
      have lG3 : bG < Z3.heap.size := by omega
      obtain ⟨bR, hbR⟩ : ∃ b, b = Z2.heap.size := ⟨_, rfl⟩
      rw [← hbR] at BR3 lR3
      simp only [← hbR]
      have gbR : w.heap.size + 3 ≤ bR := by have := SB2.out.hl; omega
      have vbR : wi.heap.size ≤ bR := by have := KX2.out.size; omega
      have ubR : Z1.heap.size ≤ bR := by omega
      have ne1 : ¬ bG = bR := by omega
      have ne2 : ¬ bR = bG := by omega
      clear hbR
      refine tr_on (kp KX3.out) ?_
      obtain ⟨h0, h1, h2, h3, hf⟩ := BG3.out
      refine tr_step (by simp only [opT, opS, opZ]; rfl) ?_
      obtain ⟨Y1, hY1⟩ : ∃ Y, Y = set4 Z3 bG (.slice A6 D.1.nodes.length c6) (.slice A7 D.1.edges.length c7) (.int .i64 D.1.nn) (.int .i64 D.1.ne) := ⟨_, rfl⟩
      obtain ⟨SBY, KY, BGY, BRY, GRY, zY1⟩ := SB3.out.put4 KX3.out gbG vbG BG3.out BR3.out ne2 GR3.out (by omega) (.slice A6 D.1.nodes.length c6) (.slice A7 D.1.edges.length c7) (.int .i64 D.1.nn) (.int .i64 D.1.ne)
      rw [← hY1] at SBY KY BGY BRY GRY zY1
      unfold set4 at hY1
      go_wp2_with fail
      rw [← hY1]
      clear hY1 h0 h1 h2 h3 hf
      refine tr_on (kp KY.out) ?_
      refine tr_step (by simp only [opT, opS, opZ]; rfl) ?_
      obtain ⟨h0, h1, h2, h3, h4, hf⟩ := BRY.out
      have lRY : bR < Y1.heap.size := by omega
      obtain ⟨Y2, hY2⟩ : ∃ Y, Y = set5 Y1 bR (.int .i64 D.2.st) (.int .i64 D.2.id) (.slice a1 D.2.ps.length d1) (.slice a2 D.2.os.length d2) (.slice a3 D.2.is.length d3) := ⟨_, rfl⟩
      obtain ⟨SBZ, KZ, BGZ, GRZ, zY2⟩ := SBY.out.put5 KY.out gbR vbR BGY.out ne1 GRY.out (by omega) (.int .i64 D.2.st) (.int .i64 D.2.id) (.slice a1 D.2.ps.length d1) (.slice a2 D.2.os.length d2) (.slice a3 D.2.is.length d3)
      rw [← hY2] at SBZ KZ BGZ GRZ zY2
      unfold set5 at hY2
      go_wp2_with fail
      rw [← hY2]
      clear hY2 h0 h1 h2 h3 h4 hf
      refine tr_on (kp KZ.out) ?_
      refine tr_done ?_
      exact HCUT.out bG A6 c6 A7 c7 Y2 SBZ.out BGZ.out (GRZ.out.mono fun j hj _ => by have := SB0.out.hl; (try simp only at hj ⊢); omega) gbG (by omega)
     ·
      refine Lib.hid ?_
      obtain ⟨Z2, hV2⟩ : ∃ V, V = Z1.alloc (.cells #[.int .i64 0, .int .i64 0, .slice none 0 0, .slice none 0 0, .slice none 0 0] 50) := ⟨_, rfl⟩
      have hb2 : Below Z1.heap.size Z1 Z2 := by rw [hV2]; exact (Below.refl _ Z1).alloc (Nat.le_refl _) _
      have s2 : Z1.heap.size < Z2.heap.size := by rw [hV2]; simp
      have KX2 := thn KX1 hb2
      have SB2 := Lib.hid (SB1.out.below hb2)
      have GR2 := Lib.hid (GR1.out.below hb2)
      have BR2 := Lib.hid (show Box5 Z2 Z1.heap.size _ _ _ _ _ from by rw [hV2]; exact Box5.made Z1 50 (.int .i64 0) (.int .i64 0) (.slice none 0 0) (.slice none 0 0) (.slice none 0 0))
      go_wp2_with fail
      rw [← hV2]
      clear hV2 hb2
      have lR2 : Z1.heap.size < Z2.heap.size := s2
      obtain ⟨bR, hbR⟩ : ∃ b, b = Z1.heap.size := ⟨_, rfl⟩
      rw [← hbR] at BR2 lR2
      simp only [← hbR]
      have gbR : w.heap.size + 3 ≤ bR := by have := SB1.out.hl; omega
      have vbR : wi.heap.size ≤ bR := by have := KX1.out.size; omega
      have ubR : Z1.heap.size ≤ bR := by omega
      clear hbR
      refine tr_on (kp KX2.out) ?_
      refine tr_step (by simp only [opT, opS, opZ]; rfl) ?_
      obtain ⟨Z3, hV3⟩ : ∃ V, V = Z2.alloc (.cells #[.slice none 0 0, .slice none 0 0, .int .i64 0, .int .i64 0] 31) := ⟨_, rfl⟩
      have hb3 : Below Z2.heap.size Z2 Z3 := by rw [hV3]; exact (Below.refl _ Z2).alloc (Nat.le_refl _) _
      have s3 : Z2.heap.size < Z3.heap.size := by rw [hV3]; simp
      have KX3 := thn KX2 hb3
      have SB3 := Lib.hid (SB2.out.below hb3)
      have GR3 := Lib.hid (GR2.out.below hb3)
      have BR3 := Lib.hid (BR2.out.keep (hb3.block _ lR2))
      have BG3 := Lib.hid (show Box4 Z3 Z2.heap.size _ _ _ _ from by rw [hV3]; exact Box4.made Z2 31 (.slice none 0 0) (.slice none 0 0) (.int .i64 0) (.int .i64 0))
      go_wp2_with fail
      rw [← hV3]
      clear hV3 hb3
      have lG3 : Z2.heap.size < Z3.heap.size := s3
      have lR3 : bR < Z3.heap.size := by omega
      obtain ⟨bG, hbG⟩ : ∃ b, b = Z2.heap.size := ⟨_, rfl⟩
      rw [← hbG] at BG3 lG3
      simp only [← hbG]
      have gbG : w.heap.size + 3 ≤ bG := by have := SB2.out.hl; omega
      have vbG : wi.heap.size ≤ bG := by have := KX2.out.size; omega
      have ubG : Z1.heap.size ≤ bG := by omega
      have ne1 : ¬ bG = bR := by omega
      have ne2 : ¬ bR = bG := by omega
      clear hbG
      refine tr_on (kp KX3.out) ?_
      obtain ⟨h0, h1, h2, h3, hf⟩ := BG3.out
      refine tr_step (by simp only [opT, opS, opZ]; rfl) ?_
      obtain ⟨Y1, hY1⟩ : ∃ Y, Y = set4 Z3 bG (.slice A6 D.1.nodes.length c6) (.slice A7 D.1.edges.length c7) (.int .i64 D.1.nn) (.int .i64 D.1.ne) := ⟨_, rfl⟩
      obtain ⟨SBY, KY, BGY, BRY, GRY, zY1⟩ := SB3.out.put4 KX3.out gbG vbG BG3.out BR3.out ne2 GR3.out (by omega) (.slice A6 D.1.nodes.length c6) (.slice A7 D.1.edges.length c7) (.int .i64 D.1.nn) (.int .i64 D.1.ne)
      rw [← hY1] at SBY KY BGY BRY GRY zY1
      unfold set4 at hY1
      go_wp2_with fail
      rw [← hY1]
      clear hY1 h0 h1 h2 h3 hf
      refine tr_on (kp KY.out) ?_
      refine tr_step (by simp only [opT, opS, opZ]; rfl) ?_
      obtain ⟨h0, h1, h2, h3, h4, hf⟩ := BRY.out
      have lRY : bR < Y1.heap.size := by omega
      obtain ⟨Y2, hY2⟩ : ∃ Y, Y = set5 Y1 bR (.int .i64 D.2.st) (.int .i64 D.2.id) (.slice a1 D.2.ps.length d1) (.slice a2 D.2.os.length d2) (.slice a3 D.2.is.length d3) := ⟨_, rfl⟩
      obtain ⟨SBZ, KZ, BGZ, GRZ, zY2⟩ := SBY.out.put5 KY.out gbR vbR BGY.out ne1 GRY.out (by omega) (.int .i64 D.2.st) (.int .i64 D.2.id) (.slice a1 D.2.ps.length d1) (.slice a2 D.2.os.length d2) (.slice a3 D.2.is.length d3)
      rw [← hY2] at SBZ KZ BGZ GRZ zY2
      unfold set5 at hY2
      go_wp2_with fail
      rw [← hY2]
      clear hY2 h0 h1 h2 h3 h4 hf
      refine tr_on (kp KZ.out) ?_
      refine tr_done ?_
      exact HCUT.out bG A6 c6 A7 c7 Y2 SBZ.out BGZ.out (GRZ.out.mono fun j hj _ => by have := SB0.out.hl; (try simp only at hj ⊢); omega) gbG (by omega)
    ·
     refine Lib.hid ?_
     obtain ⟨Z1, hV1⟩ : ∃ V, V = Z0.alloc (.cells #[.slice none 0 0, .slice none 0 0, .int .i64 0, .int .i64 0] 31) := ⟨_, rfl⟩
     have hb1 : Below Z0.heap.size Z0 Z1 := by rw [hV1]; exact (Below.refl _ Z0).alloc (Nat.le_refl _) _
     have s1 : Z0.heap.size < Z1.heap.size := by rw [hV1]; simp
     have KX1 := thn KX0 hb1
     have SB1 := Lib.hid (SB0.out.below hb1)
     have GA1 := Lib.hid (GA0.out.below hb1)
     have BG1 := Lib.hid (show Box4 Z1 Z0.heap.size _ _ _ _ from by rw [hV1]; exact Box4.made Z0 31 (.slice none 0 0) (.slice none 0 0) (.int .i64 0) (.int .i64 0))
     go_wp2_with fail
     rw [← hV1]
     clear hV1 hb1
     have lG1 : Z0.heap.size < Z1.heap.size := s1
     obtain ⟨bG, hbG⟩ : ∃ b, b = Z0.heap.size := ⟨_, rfl⟩
     rw [← hbG] at BG1 lG1
     simp only [← hbG]
     have gbG : w.heap.size + 3 ≤ bG := by have := SB0.out.hl; omega
     have vbG : wi.heap.size ≤ bG := by have := KX0.out.size; omega
     clear hbG
     refine tr_on (kp KX1.out) ?_
     refine tr_two (by simp only [opT, opS, opZ]; rfl) ?_ (by simp only [opT, opS, opZ]; rfl) (Hid.out ?_)
     ·
      skip
      go_wp2_with fail
      refine (refDo_calls Z1 _ sd.c p.g _ _ x.op GA1.out HR.out).mono ?_
      rintro e Z2 hdo
      rw [← HD.out] at hdo
      obtain ⟨un, ue, rv, rfl, hgr, hres, hb2⟩ := hdo
      obtain ⟨a1, d1, a2, d2, a3, d3, rfl, _⟩ := hres.slices
      obtain ⟨⟨A6, c6, rfl⟩, ⟨A7, c7, rfl⟩⟩ := hgr.slices
      have s2 := hb2.size
      have KX2 := thn KX1 hb2
      have SB2 := Lib.hid (SB1.out.below hb2)
      have BG2 := Lib.hid (BG1.out.keep (hb2.block _ lG1))
      have GR2 := Lib.hid (hgr.bound.mono (S' := fun j => Z1.heap.size ≤ j ∧ j < Z2.heap.size) fun j hj _ => hj)
      have lG2 : bG < Z2.heap.size := by omega
      clear hb2 hgr hres
      go_wp2_with fail
      refine tr_on (kp KX2.out) ?_
      repeat (refine tr_take (v := ?_) (by simp only [opT, opS, opZ]; rfl) (Or.inl ⟨by rfl, fun W hW => ?_⟩) (kp KX2.out) ?_; rotate_left; (clear hW; go_simp; with_reducible rfl); simp only [Act.put, putT, putZ, putS])
      refine tr_step (by simp only [opT, opS, opZ]; rfl) ?_
      obtain ⟨Z3, hV3⟩ : ∃ V, V = Z2.alloc (.cells #[.int .i64 0, .int .i64 0, .slice none 0 0, .slice none 0 0, .slice none 0 0] 50) := ⟨_, rfl⟩
      have hb3 : Below Z2.heap.size Z2 Z3 := by rw [hV3]; exact (Below.refl _ Z2).alloc (Nat.le_refl _) _
      have s3 : Z2.heap.size < Z3.heap.size := by rw [hV3]; simp
      have KX3 := thn KX2 hb3
      have SB3 := Lib.hid (SB2.out.below hb3)
      have GR3 := Lib.hid (GR2.out.below hb3)
      have BG3 := Lib.hid (BG2.out.keep (hb3.block _ lG2))
      have BR3 := Lib.hid (show Box5 Z3 Z2.heap.size _ _ _ _ _ from by rw [hV3]; exact Box5.made Z2 50 (.int .i64 0) (.int .i64 0) (.slice none 0 0) (.slice none 0 0) (.slice none 0 0))
      go_wp2_with fail
      rw [← hV3]
      clear hV3 hb3
      have lR3 : Z2.heap.size < Z3.heap.size := s3
      have lG3 : bG < Z3.heap.size := by omega
      obtain ⟨bR, hbR⟩ : ∃ b, b = Z2.heap.size := ⟨_, rfl⟩
      rw [← hbR] at BR3 lR3
      simp only [← hbR]
      have gbR : w.heap.size + 3 ≤ bR := by have := SB2.out.hl; omega
      have vbR : wi.heap.size ≤ bR := by have := KX2.out.size; omega
      have ubR : Z2.heap.size ≤ bR := by omega
      have ne1 : ¬ bG = bR := by omega
      have ne2 : ¬ bR = bG := by omega
      clear hbR
      refine tr_on (kp KX3.out) ?_
      obtain ⟨h0, h1, h2, h3, hf⟩ := BG3.out
      refine tr_step (by simp only [opT, opS, opZ]; rfl) ?_
      obtain ⟨Y1, hY1⟩ : ∃ Y, Y = set4 Z3 bG (.slice A6 D.1.nodes.length c6) (.slice A7 D.1.edges.length c7) (.int .i64 D.1.nn) (.int .i64 D.1.ne) := ⟨_, rfl⟩
      obtain ⟨SBY, KY, BGY, BRY, GRY, zY1⟩ := SB3.out.put4 KX3.out gbG vbG BG3.out BR3.out ne2 GR3.out (by omega) (.slice A6 D.1.nodes.length c6) (.slice A7 D.1.edges.length c7) (.int .i64 D.1.nn) (.int .i64 D.1.ne)
      rw [← hY1] at SBY KY BGY BRY GRY zY1
      unfold set4 at hY1
      go_wp2_with fail
      rw [← hY1]
      clear hY1 h0 h1 h2 h3 hf
      refine tr_on (kp KY.out) ?_
      refine tr_step (by simp only [opT, opS, opZ]; rfl) ?_
      obtain ⟨h0, h1, h2, h3, h4, hf⟩ := BRY.out
      have lRY : bR < Y1.heap.size := by omega
      obtain ⟨Y2, hY2⟩ : ∃ Y, Y = set5 Y1 bR (.int .i64 D.2.st) (.int .i64 D.2.id) (.slice a1 D.2.ps.length d1) (.slice a2 D.2.os.length d2) (.slice a3 D.2.is.length d3) := ⟨_, rfl⟩
      obtain ⟨SBZ, KZ, BGZ, GRZ, zY2⟩ := SBY.out.put5 KY.out gbR vbR BGY.out ne1 GRY.out (by omega) (.int .i64 D.2.st) (.int .i64 D.2.id) (.slice a1 D.2.ps.length d1) (.slice a2 D.2.os.length d2) (.slice a3 D.2.is.length d3)
      rw [← hY2] at SBZ KZ BGZ GRZ zY2
      unfold set5 at hY2
      go_wp2_with fail
      rw [← hY2]
      clear hY2 h0 h1 h2 h3 h4 hf
      refine tr_on (kp KZ.out) ?_
      refine tr_done ?_
      exact HCUT.out bG A6 c6 A7 c7 Y2 SBZ.out BGZ.out (GRZ.out.mono fun j hj _ => by have := SB1.out.hl; (try simp only at hj ⊢); omega) gbG (by omega)
     ·
      refine Lib.hid ?_
      obtain ⟨Z2, hV2⟩ : ∃ V, V = Z1.alloc (.cells #[.int .i64 0, .int .i64 0, .slice none 0 0, .slice none 0 0, .slice none 0 0] 50) := ⟨_, rfl⟩
      have hb2 : Below Z1.heap.size Z1 Z2 := by rw [hV2]; exact (Below.refl _ Z1).alloc (Nat.le_refl _) _
      have s2 : Z1.heap.size < Z2.heap.size := by rw [hV2]; simp
      have KX2 := thn KX1 hb2
      have SB2 := Lib.hid (SB1.out.below hb2)
      have GA2 := Lib.hid (GA1.out.below hb2)
      have BG2 := Lib.hid (BG1.out.keep (hb2.block _ lG1))
      have BR2 := Lib.hid (show Box5 Z2 Z1.heap.size _ _ _ _ _ from by rw [hV2]; exact Box5.made Z1 50 (.int .i64 0) (.int .i64 0) (.slice none 0 0) (.slice none 0 0) (.slice none 0 0))
      go_wp2_with fail
      rw [← hV2]
      clear hV2 hb2
      have lR2 : Z1.heap.size < Z2.heap.size := s2
      have lG2 : bG < Z2.heap.size := by omega
      obtain ⟨bR, hbR⟩ : ∃ b, b = Z1.heap.size := ⟨_, rfl⟩
      rw [← hbR] at BR2 lR2
      simp only [← hbR]
      have gbR : w.heap.size + 3 ≤ bR := by have := SB1.out.hl; omega
      have vbR : wi.heap.size ≤ bR := by have := KX1.out.size; omega
      have ne1 : ¬ bG = bR := by omega
      have ne2 : ¬ bR = bG := by omega
      clear hbR
      refine tr_on (kp KX2.out) ?_
      refine tr_step (by simp only [opT, opS, opZ]; rfl) ?_
      go_wp2_with fail
      refine (refDo_calls Z2 _ sd.c p.g _ _ x.op GA2.out HR.out).mono ?_
      rintro e Z3 hdo
      rw [← HD.out] at hdo
      obtain ⟨un, ue, rv, rfl, hgr, hres, hb3⟩ := hdo
      obtain ⟨a1, d1, a2, d2, a3, d3, rfl, _⟩ := hres.slices
      obtain ⟨⟨A6, c6, rfl⟩, ⟨A7, c7, rfl⟩⟩ := hgr.slices
      have s3 := hb3.size
      have KX3 := thn KX2 hb3
      have SB3 := Lib.hid (SB2.out.below hb3)
      have BG3 := Lib.hid (BG2.out.keep (hb3.block _ lG2))
      have BR3 := Lib.hid (BR2.out.keep (hb3.block _ lR2))
      have GR3 := Lib.hid (hgr.bound.mono (S' := fun j => Z2.heap.size ≤ j ∧ j < Z3.heap.size) fun j hj _ => hj)
      have lG3 : bG < Z3.heap.size := by omega
      have lR3 : bR < Z3.heap.size := by omega
      clear hb3 hgr hres
      go_wp2_with fail
      refine tr_on (kp KX3.out) ?_
      repeat (refine tr_take (v := ?_) (by simp only [opT, opS, opZ]; rfl) (Or.inl ⟨by rfl, fun W hW => ?_⟩) (kp KX3.out) ?_; rotate_left; (clear hW; go_simp; with_reducible rfl); simp only [Act.put, putT, putZ, putS])
      obtain ⟨h0, h1, h2, h3, hf⟩ := BG3.out
      refine tr_step (by simp only [opT, opS, opZ]; rfl) ?_
      obtain ⟨Y1, hY1⟩ : ∃ Y, Y = set4 Z3 bG (.slice A6 D.1.nodes.length c6) (.slice A7 D.1.edges.length c7) (.int .i64 D.1.nn) (.int .i64 D.1.ne) := ⟨_, rfl⟩
      obtain ⟨SBY, KY, BGY, BRY, GRY, zY1⟩ := SB3.out.put4 KX3.out gbG vbG BG3.out BR3.out ne2 GR3.out (by omega) (.slice A6 D.1.nodes.length c6) (.slice A7 D.1.edges.length c7) (.int .i64 D.1.nn) (.int .i64 D.1.ne)
      rw [← hY1] at SBY KY BGY BRY GRY zY1
      unfold set4 at hY1
      go_wp2_with fail
      rw [← hY1]
      clear hY1 h0 h1 h2 h3 hf
      refine tr_on (kp KY.out) ?_
      refine tr_step (by simp only [opT, opS, opZ]; rfl) ?_
      obtain ⟨h0, h1, h2, h3, h4, hf⟩ := BRY.out
      have lRY : bR < Y1.heap.size := by omega
      obtain ⟨Y2, hY2⟩ : ∃ Y, Y = set5 Y1 bR (.int .i64 D.2.st) (.int .i64 D.2.id) (.slice a1 D.2.ps.length d1) (.slice a2 D.2.os.length d2) (.slice a3 D.2.is.length d3) := ⟨_, rfl⟩
      obtain ⟨SBZ, KZ, BGZ, GRZ, zY2⟩ := SBY.out.put5 KY.out gbR vbR BGY.out ne1 GRY.out (by omega) (.int .i64 D.2.st) (.int .i64 D.2.id) (.slice a1 D.2.ps.length d1) (.slice a2 D.2.os.length d2) (.slice a3 D.2.is.length d3)
      rw [← hY2] at SBZ KZ BGZ GRZ zY2
      unfold set5 at hY2
      go_wp2_with fail
      rw [← hY2]
      clear hY2 h0 h1 h2 h3 h4 hf
      refine tr_on (kp KZ.out) ?_
      refine tr_done ?_
      exact HCUT.out bG A6 c6 A7 c7 Y2 SBZ.out BGZ.out (GRZ.out.mono fun j hj _ => by have := SB2.out.hl; (try simp only at hj ⊢); omega) gbG (by omega)
    ·
     refine Lib.hid ?_
     obtain ⟨Z1, hV1⟩ : ∃ V, V = Z0.alloc (.cells #[.int .i64 0, .int .i64 0, .slice none 0 0, .slice none 0 0, .slice none 0 0] 50) := ⟨_, rfl⟩
     have hb1 : Below Z0.heap.size Z0 Z1 := by rw [hV1]; exact (Below.refl _ Z0).alloc (Nat.le_refl _) _
     have s1 : Z0.heap.size < Z1.heap.size := by rw [hV1]; simp
     have KX1 := thn KX0 hb1
     have SB1 := Lib.hid (SB0.out.below hb1)
     have GA1 := Lib.hid (GA0.out.below hb1)
     have BR1 := Lib.hid (show Box5 Z1 Z0.heap.size _ _ _ _ _ from by rw [hV1]; exact Box5.made Z0 50 (.int .i64 0) (.int .i64 0) (.slice none 0 0) (.slice none 0 0) (.slice none 0 0))
     go_wp2_with fail
     rw [← hV1]
     clear hV1 hb1
     have lR1 : Z0.heap.size < Z1.heap.size := s1
     obtain ⟨bR, hbR⟩ : ∃ b, b = Z0.heap.size := ⟨_, rfl⟩
     rw [← hbR] at BR1 lR1
     simp only [← hbR]
     have gbR : w.heap.size + 3 ≤ bR := by have := SB0.out.hl; omega
     have vbR : wi.heap.size ≤ bR := by have := KX0.out.size; omega
     clear hbR
     refine tr_on (kp KX1.out) ?_
     refine tr_two (by simp only [opT, opS, opZ]; rfl) ?_ (by simp only [opT, opS, opZ]; rfl) (Hid.out ?_)
     ·
      skip
      go_wp2_with fail
      refine (refDo_calls Z1 _ sd.c p.g _ _ x.op GA1.out HR.out).mono ?_
      rintro e Z2 hdo
      rw [← HD.out] at hdo
      obtain ⟨un, ue, rv, rfl, hgr, hres, hb2⟩ := hdo
      obtain ⟨a1, d1, a2, d2, a3, d3, rfl, _⟩ := hres.slices
      obtain ⟨⟨A6, c6, rfl⟩, ⟨A7, c7, rfl⟩⟩ := hgr.slices
      have s2 := hb2.size
      have KX2 := thn KX1 hb2
      have SB2 := Lib.hid (SB1.out.below hb2)
      have BR2 := Lib.hid (BR1.out.keep (hb2.block _ lR1))
      have GR2 := Lib.hid (hgr.bound.mono (S' := fun j => Z1.heap.size ≤ j ∧ j < Z2.heap.size) fun j hj _ => hj)
      have lR2 : bR < Z2.heap.size := by omega
      clear hb2 hgr hres
      go_wp2_with fail
      refine tr_on (kp KX2.out) ?_
      repeat (refine tr_take (v := ?_) (by simp only [opT, opS, opZ]; rfl) (Or.inl ⟨by rfl, fun W hW => ?_⟩) (kp KX2.out) ?_; rotate_left; (clear hW; go_simp; with_reducible rfl); simp only [Act.put, putT, putZ, putS])
      refine tr_step (by simp only [opT, opS, opZ]; rfl) ?_
      obtain ⟨Z3, hV3⟩ : ∃ V, V = Z2.alloc (.cells #[.slice none 0 0, .slice none 0 0, .int .i64 0, .int .i64 0] 31) := ⟨_, rfl⟩
      have hb3 : Below Z2.heap.size Z2 Z3 := by rw [hV3]; exact (Below.refl _ Z2).alloc (Nat.le_refl _) _
      have s3 : Z2.heap.size < Z3.heap.size := by rw [hV3]; simp
      have KX3 := thn KX2 hb3
      have SB3 := Lib.hid (SB2.out.below hb3)
      have GR3 := Lib.hid (GR2.out.below hb3)
      have BR3 := Lib.hid (BR2.out.keep (hb3.block _ lR2))
      have BG3 := Lib.hid (show Box4 Z3 Z2.heap.size _ _ _ _ from by rw [hV3]; exact Box4.made Z2 31 (.slice none 0 0) (.slice none 0 0) (.int .i64 0) (.int .i64 0))
      go_wp2_with fail
      rw [← hV3]
      clear hV3 hb3
      have lG3 : Z2.heap.size < Z3.heap.size := s3
      have lR3 : bR < Z3.heap.size := by omega
      obtain ⟨bG, hbG⟩ : ∃ b, b = Z2.heap.size := ⟨_, rfl⟩
      rw [← hbG] at BG3 lG3
      simp only [← hbG]
      have gbG : w.heap.size + 3 ≤ bG := by have := SB2.out.hl; omega
      have vbG : wi.heap.size ≤ bG := by have := KX2.out.size; omega
      have ubG : Z2.heap.size ≤ bG := by omega
      have ne1 : ¬ bG = bR := by omega
      have ne2 : ¬ bR = bG := by omega
      clear hbG
      refine tr_on (kp KX3.out) ?_
      obtain ⟨h0, h1, h2, h3, hf⟩ := BG3.out
      refine tr_step (by simp only [opT, opS, opZ]; rfl) ?_
      obtain ⟨Y1, hY1⟩ : ∃ Y, Y = set4 Z3 bG (.slice A6 D.1.nodes.length c6) (.slice A7 D.1.edges.length c7) (.int .i64 D.1.nn) (.int .i64 D.1.ne) := ⟨_, rfl⟩
      obtain ⟨SBY, KY, BGY, BRY, GRY, zY1⟩ := SB3.out.put4 KX3.out gbG vbG BG3.out BR3.out ne2 GR3.out (by omega) (.slice A6 D.1.nodes.length c6) (.slice A7 D.1.edges.length c7) (.int .i64 D.1.nn) (.int .i64 D.1.ne)
      rw [← hY1] at SBY KY BGY BRY GRY zY1
      unfold set4 at hY1
      go_wp2_with fail
      rw [← hY1]
      clear hY1 h0 h1 h2 h3 hf
      refine tr_on (kp KY.out) ?_
      refine tr_step (by simp only [opT, opS, opZ]; rfl) ?_
      obtain ⟨h0, h1, h2, h3, h4, hf⟩ := BRY.out
      have lRY : bR < Y1.heap.size := by omega
      obtain ⟨Y2, hY2⟩ : ∃ Y, Y = set5 Y1 bR (.int .i64 D.2.st) (.int .i64 D.2.id) (.slice a1 D.2.ps.length d1) (.slice a2 D.2.os.length d2) (.slice a3 D.2.is.length d3) := ⟨_, rfl⟩
      obtain ⟨SBZ, KZ, BGZ, GRZ, zY2⟩ := SBY.out.put5 KY.out gbR vbR BGY.out ne1 GRY.out (by omega) (.int .i64 D.2.st) (.int .i64 D.2.id) (.slice a1 D.2.ps.length d1) (.slice a2 D.2.os.length d2) (.slice a3 D.2.is.length d3)
      rw [← hY2] at SBZ KZ BGZ GRZ zY2
      unfold set5 at hY2
      go_wp2_with fail
      rw [← hY2]
      clear hY2 h0 h1 h2 h3 h4 hf
      refine tr_on (kp KZ.out) ?_
      refine tr_done ?_
      exact HCUT.out bG A6 c6 A7 c7 Y2 SBZ.out BGZ.out (GRZ.out.mono fun j hj _ => by have := SB1.out.hl; (try simp only at hj ⊢); omega) gbG (by omega)
     ·
      refine Lib.hid ?_
      obtain ⟨Z2, hV2⟩ : ∃ V, V = Z1.alloc (.cells #[.slice none 0 0, .slice none 0 0, .int .i64 0, .int .i64 0] 31) := ⟨_, rfl⟩
      have hb2 : Below Z1.heap.size Z1 Z2 := by rw [hV2]; exact (Below.refl _ Z1).alloc (Nat.le_refl _) _
      have s2 : Z1.heap.size < Z2.heap.size := by rw [hV2]; simp
      have KX2 := thn KX1 hb2
      have SB2 := Lib.hid (SB1.out.below hb2)
      have GA2 := Lib.hid (GA1.out.below hb2)
      have BR2 := Lib.hid (BR1.out.keep (hb2.block _ lR1))
      have BG2 := Lib.hid (show Box4 Z2 Z1.heap.size _ _ _ _ from by rw [hV2]; exact Box4.made Z1 31 (.slice none 0 0) (.slice none 0 0) (.int .i64 0) (.int .i64 0))
      go_wp2_with fail
      rw [← hV2]
      clear hV2 hb2
      have lG2 : Z1.heap.size < Z2.heap.size := s2
      have lR2 : bR < Z2.heap.size := by omega
      obtain ⟨bG, hbG⟩ : ∃ b, b = Z1.heap.size := ⟨_, rfl⟩
      rw [← hbG] at BG2 lG2
      simp only [← hbG]
      have gbG : w.heap.size + 3 ≤ bG := by have := SB1.out.hl; omega
      have vbG : wi.heap.size ≤ bG := by have := KX1.out.size; omega
      have ne1 : ¬ bG = bR := by omega
      have ne2 : ¬ bR = bG := by omega
      clear hbG
      refine tr_on (kp KX2.out) ?_
      refine tr_step (by simp only [opT, opS, opZ]; rfl) ?_
      go_wp2_with fail
      refine (refDo_calls Z2 _ sd.c p.g _ _ x.op GA2.out HR.out).mono ?_
      rintro e Z3 hdo
      rw [← HD.out] at hdo
      obtain ⟨un, ue, rv, rfl, hgr, hres, hb3⟩ := hdo
      obtain ⟨a1, d1, a2, d2, a3, d3, rfl, _⟩ := hres.slices
      obtain ⟨⟨A6, c6, rfl⟩, ⟨A7, c7, rfl⟩⟩ := hgr.slices
      have s3 := hb3.size
      have KX3 := thn KX2 hb3
      have SB3 := Lib.hid (SB2.out.below hb3)
      have BG3 := Lib.hid (BG2.out.keep (hb3.block _ lG2))
      have BR3 := Lib.hid (BR2.out.keep (hb3.block _ lR2))
      have GR3 := Lib.hid (hgr.bound.mono (S' := fun j => Z2.heap.size ≤ j ∧ j < Z3.heap.size) fun j hj _ => hj)
      have lG3 : bG < Z3.heap.size := by omega
      have lR3 : bR < Z3.heap.size := by omega
      clear hb3 hgr hres
      go_wp2_with fail
      refine tr_on (kp KX3.out) ?_
      repeat (refine tr_take (v := ?_) (by simp only [opT, opS, opZ]; rfl) (Or.inl ⟨by rfl, fun W hW => ?_⟩) (kp KX3.out) ?_; rotate_left; (clear hW; go_simp; with_reducible rfl); simp only [Act.put, putT, putZ, putS])
      obtain ⟨h0, h1, h2, h3, hf⟩ := BG3.out
      refine tr_step (by simp only [opT, opS, opZ]; rfl) ?_
      obtain ⟨Y1, hY1⟩ : ∃ Y, Y = set4 Z3 bG (.slice A6 D.1.nodes.length c6) (.slice A7 D.1.edges.length c7) (.int .i64 D.1.nn) (.int .i64 D.1.ne) := ⟨_, rfl⟩
      obtain ⟨SBY, KY, BGY, BRY, GRY, zY1⟩ := SB3.out.put4 KX3.out gbG vbG BG3.out BR3.out ne2 GR3.out (by omega) (.slice A6 D.1.nodes.length c6) (.slice A7 D.1.edges.length c7) (.int .i64 D.1.nn) (.int .i64 D.1.ne)
      rw [← hY1] at SBY KY BGY BRY GRY zY1
      unfold set4 at hY1
      go_wp2_with fail
      rw [← hY1]
      clear hY1 h0 h1 h2 h3 hf
      refine tr_on (kp KY.out) ?_
      refine tr_step (by simp only [opT, opS, opZ]; rfl) ?_
      obtain ⟨h0, h1, h2, h3, h4, hf⟩ := BRY.out
      have lRY : bR < Y1.heap.size := by omega
      obtain ⟨Y2, hY2⟩ : ∃ Y, Y = set5 Y1 bR (.int .i64 D.2.st) (.int .i64 D.2.id) (.slice a1 D.2.ps.length d1) (.slice a2 D.2.os.length d2) (.slice a3 D.2.is.length d3) := ⟨_, rfl⟩
      obtain ⟨SBZ, KZ, BGZ, GRZ, zY2⟩ := SBY.out.put5 KY.out gbR vbR BGY.out ne1 GRY.out (by omega) (.int .i64 D.2.st) (.int .i64 D.2.id) (.slice a1 D.2.ps.length d1) (.slice a2 D.2.os.length d2) (.slice a3 D.2.is.length d3)
      rw [← hY2] at SBZ KZ BGZ GRZ zY2
      unfold set5 at hY2
      go_wp2_with fail
      rw [← hY2]
      clear hY2 h0 h1 h2 h3 h4 hf
      refine tr_on (kp KZ.out) ?_
      refine tr_done ?_
      exact HCUT.out bG A6 c6 A7 c7 Y2 SBZ.out BGZ.out (GRZ.out.mono fun j hj _ => by have := SB2.out.hl; (try simp only at hj ⊢); omega) gbG (by omega)
   ·
    have HF := Lib.hid (NX.out.trans (if_neg hto))
    have hto' : ¬ x.to < 0 := hto
    have na : ¬ b3 = w.heap.size + 1 + 1 := by omega
    have nb0 : ¬ w.heap.size = w.heap.size + 1 + 1 := by omega
    have nb1 : ¬ w.heap.size + 1 = w.heap.size + 1 + 1 := by omega
    go_wp2_with fail
    refine wp_region_schedK (fun j => ¬ j = w.heap.size + 1 + 1) [(0, true), (1, true), (2, true), (3, true), (4, true), (5, true), (6, true), (7, true), (8, true), (9, true), (10, true), (11, true), (12, false), (13, true), (14, true), (15, false), (16, true)] (by kernel_rfl) (by kernel_rfl) (fun hS => ?_)
    have HK := Lib.hid hS
    clear hS
    have KD := Lib.hid (Below.refl wi.heap.size wi).drew
    revert HK KD
    generalize wi.drew = Wd
    intro HK KD
    repeat (refine sched_take (v := ?_) (by simp only [opT, opS, opZ]; rfl) (Or.inl ⟨by rfl, fun W hW => ?_⟩) HK.out ?_; rotate_left; (have hc := fun b o hn hb => hW.cell b o hn hb; clear hW; go_simp; with_reducible rfl); simp only [Act.put, putT, putZ, putS])
    refine sched_step (by simp only [opT, opS, opZ]; rfl) ?_
    go_wp2_with fail
    refine (refFits_calls Wd _ (fun j => j < w.heap.size) sd.c p.g _ _ x.op x.res _ (HG2.out.below KD.out) HR.out ⟨_, _, _, rfl, HSL.out.1.below KD.out, HSL.out.2.1.below KD.out, HSL.out.2.2.below KD.out⟩).mono ?_
    rintro e wz ⟨un, ue, z, bz, rfl, hgr, hfit, hb2⟩
    obtain ⟨⟨A6, c6, rfl⟩, ⟨A7, c7, rfl⟩⟩ := hgr.slices
    have hfe : fitsF sd.c p.g x.op x.res = (z, bz) := fits_uniq hfit
    have HFE := Lib.hid hfe
    have HK2 := Lib.hid (HK.out.below hb2)
    have B3 := Lib.hid (B2.out.below (KD.out.trans (hb2.mono KD.out.size)))
    have GZ := Lib.hid hgr
    have sD := KD.out.size
    clear hb2 hgr hfit hfe HK q0 q1 q2 q3 q4 qf g0 g1 g2 g3 gf x0 x1 x2 x3 x4 x5 x6 x7 x8 x9 x10 x11 x12
    go_wp2_with fail
    refine sched_on HK2.out ?_
    repeat (refine sched_take (v := ?_) (by simp only [opT, opS, opZ]; rfl) (Or.inl ⟨by rfl, fun W hW => ?_⟩) HK2.out ?_; rotate_left; (clear hW; go_simp; with_reducible rfl); simp only [Act.put, putT, putZ, putS])
    refine sched_step (by simp only [opT, opS, opZ]; rfl) ?_
    obtain ⟨b0, b1, b2, b3', bf⟩ := B3.out.b0
    have lw3 := B3.out.hl
    have l3 : w.heap.size + 1 + 1 < wz.heap.size := by omega
    have HK3 := Lib.hid (show Kept wi (fun j => ¬ j = w.heap.size + 1 + 1) (set4 wz (w.heap.size + 1 + 1) (.slice A6 z.nodes.length c6) (.slice A7 z.edges.length c7) (.int .i64 z.nn) (.int .i64 z.ne)) from HK2.out.set4 (.inr (fun h => absurd rfl h)) _ _ _ _)
    unfold set4 at HK3
    go_wp2_with fail
    refine sched_on HK3.out ?_
    repeat (refine sched_take (v := ?_) (by simp only [opT, opS, opZ]; rfl) (Or.inl ⟨by rfl, fun W hW => ?_⟩) HK3.out ?_; rotate_left; (clear hW; go_simp; with_reducible rfl); simp only [Act.put, putT, putZ, putS])
    refine sched_done ?_
    go_wp2
    refine bodyPost_ret (v := .tuple #[.agg #[.slice A6 z.nodes.length c6, .slice A7 z.edges.length c7, .int .i64 z.nn, .int .i64 z.ne], .bool bz]) (by simp [results, Tryz.results24, go_sem, b0, b1, b2, b3']; try rfl) rfl ?_
    rw [HF.out, HFE.out]
    refine ⟨_, _, _, _, _, _, _, _, rfl, fun _ => ⟨rfl, rfl, ?_⟩, set4_below B3.out.K (by omega) _ _ _ _⟩
    exact (GZ.out.move fun j hj _ => set4_heap _ _ _ _ _ _ _ (by (try simp only at hj); omega)).mono fun j hj _ => by (try simp only at hj ⊢); omega
end Go.Proofs.YtpehmmdbjakkpaaGreat


