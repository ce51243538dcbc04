/- HistEvents: each event is one call's. -/
import Derived.Test.YtgpmkcipogljbaaHistThreadsW
import Derived.Test.YtgpmkcipogljbaaEvs
import Derived.Test.YtgpmkcipogljbaaSameC
import Derived.Test.YtgpmkcipogljbaaMakeI
import Derived.Test.YtgpmkcipogljbaaSchedK
namespace Go.Proofs.Ytgpmkcipogljbaa
open Go.RowKit
set_option linter.unusedSimpArgs false
set_option linter.unusedVariables false
/-- How often each event was met. -/
def Met (ys : List CallD) (n : Nat) (m : List Int) : Prop := m.length = n ∧ ∀ e, e < n → m[e]? = some (cnt ys e : Int)
theorem hit_le (e : Nat) (c : CallD) : hit e c ≤ 2 := by unfold hit; split <;> split <;> omega
theorem cnt_le (e : Nat) : ∀ l : List CallD, cnt l e ≤ 2 * l.length := by
  intro l
  induction l with
  | nil => simp [cnt]
  | cons z l ih =>
    have := hit_le e z
    simp [cnt] at ih ⊢
    omega
theorem cnt_succ {xs : List CallD} {j : Nat} {c : CallD} (h : xs[j]? = some c) (e : Nat) : cnt (xs.take (j + 1)) e = cnt (xs.take j) e + hit e c := by
  rw [List.take_add_one, h, Option.toList_some, cnt_snoc]
theorem pn_le : ∀ l : List CallD, pn l ≤ l.length := by
  intro l
  have h := pendOf_le l l.length
  rw [List.take_length, pn_eq] at h
  omega
theorem Met.at {ys : List CallD} {n : Nat} {m : List Int} (h : Met ys n m) {e : Nat} (he : e < n) : ∃ u : Int, m[e]? = some u ∧ 0 ≤ u ∧ u ≤ 2 * (ys.length : Int) := ⟨_, h.2 e he, by omega, by have := cnt_le e ys; omega⟩
theorem Met.one {xs : List CallD} {j n f : Nat} {m : List Int} {c : CallD} {u : Int} (h : Met (xs.take j) n m) (hc : xs[j]? = some c) (hf : c.frm = (f : Int)) (ht : c.to < 0) (hu : m[f]? = some u) : Met (xs.take (j + 1)) n (m.set f (u + 1)) := by
  refine ⟨by rw [List.length_set]; exact h.1, fun e he => ?_⟩
  have h1 := h.2 e he
  rw [cnt_succ hc]
  simp only [hit]
  rw [hf, if_neg (show ¬ c.to = (e : Int) by omega)]
  rw [List.getElem?_set]
  split
  · subst_vars
    rw [h1] at hu
    injection hu with hu
    rw [if_pos (by have := h.1; omega), if_pos rfl]
    subst hu
    simp
  · rw [h1, if_neg (by omega)]
    simp
theorem Met.two {xs : List CallD} {j n f g : Nat} {m : List Int} {c : CallD} {u u' : Int} (h : Met (xs.take j) n m) (hc : xs[j]? = some c) (hf : c.frm = (f : Int)) (ht : c.to = (g : Int)) (hfg : f < g) (hu : m[f]? = some u) (hu' : m[g]? = some u') : Met (xs.take (j + 1)) n ((m.set f (u + 1)).set g (u' + 1)) := by
  refine ⟨by rw [List.length_set, List.length_set]; exact h.1, fun e he => ?_⟩
  have h1 := h.2 e he
  rw [cnt_succ hc]
  simp only [hit]
  rw [hf, ht]
  rw [List.getElem?_set]
  split
  · subst_vars
    rw [h1] at hu'
    injection hu' with hu'
    rw [if_pos (by rw [List.length_set]; have := h.1; omega), if_neg (by omega), if_pos rfl]
    subst hu'
    simp
  · rw [List.getElem?_set]
    split
    · subst_vars
      rw [h1] at hu
      injection hu with hu
      rw [if_pos (by have := h.1; omega), if_pos rfl, if_neg (by omega)]
      subst hu
      simp
    · rw [h1, if_neg (by omega), if_neg (by omega)]
      simp
set_option maxRecDepth 100000 in
set_option maxHeartbeats 8000000 in
theorem histEvents_walk (w : World) (v : Value) (l : List EvD) (hr : Row tEv w (fun _ => True) v l) (okl : ∀ x ∈ l, okI x.th) : Calls Try.prog 7 #[v] w fun e w' => e = .returned (.bool true) ∧ Below w.heap.size w w' := by
  obtain ⟨A, c, rfl⟩ := hr.slice
  have HR := Lib.hid hr
  have OK := Lib.hid okl
  clear hr okl
  go_enter Try.func7, Try.ntmps7
  go_wp2_with fail
  refine (live_calls _).mono ?_
  rintro e w1 ⟨rfl, hb1⟩
  have K1 := Lib.hid hb1
  clear hb1
  have s1 := K1.out.size
  have HR1 := Lib.hid (HR.out.below K1.out)
  go_wp2_with fail
  refine (few_calls _ _ _ _ _ HR1.out).mono ?_
  rintro e w2 ⟨rfl, hb2⟩
  have K2 := Lib.hid (K1.out.trans (hb2.mono s1))
  clear hb2
  have s2 := K2.out.size
  have HR2 := Lib.hid (HR.out.below K2.out)
  cases hfew : fewOf l 100
  · clear hfew
    go_wp2
    go_ret
    exact ⟨rfl, K2.out⟩
  have HF := Lib.hid (small_few hfew)
  clear hfew
  have hl100 : l.length ≤ 100 := by have := HF.out.2; omega
  have HL := Lib.hid (show l.length ≤ 1000000 by omega)
  go_wp2_with fail
  refine (calls_calls _ _ _ _ HR2.out HL.out HF.out.1 OK.out).mono ?_
  rintro e w3 ⟨v3, rfl, ho3, hb3⟩
  have K3 := Lib.hid (K2.out.trans (hb3.mono s2))
  have s3 := K3.out.size
  clear hb3
  cases hrun : runL l with
  | none =>
    simp only [errOf]
    clear hrun
    go_wp2
    go_ret
    exact ⟨rfl, K3.out⟩
  | some t =>
    rw [hrun] at ho3
    simp only [errOf, outOf] at ho3 ⊢
    have EV := Lib.hid (runL_ev hrun)
    have HR3 := Lib.hid (HR.out.below K3.out).bound
    clear hrun
    obtain ⟨A3, c3, rfl⟩ := ho3.slice
    have X := Lib.hid ho3.bound
    clear ho3
    have hm := X.out.len
    unfold maxLen at hm
    have hmk := fun W : World => made_run W l.length (by omega)
    go_wp2
    have HO := Lib.hid (Own.ofMade (w := w3) (e := 3) (n := l.length) (by unfold maxLen; omega) (fun k => w3.heap.size ≤ k) (Nat.le_refl _))
    have hM : Met (t.out.take 0) l.length (List.replicate l.length 0) := ⟨by simp, fun e he => by rw [List.getElem?_replicate, if_pos he, List.take_zero]; rfl⟩
    have HM := Lib.hid hM
    clear hM hmk
    have EACH := Lib.hid EV.out.inv.each
    have BLANK := Lib.hid EV.out.blank
    unfold St.blank at BLANK
    have FRM := Lib.hid EV.out.frm
    have TO := Lib.hid EV.out.to
    have MET := Lib.hid EV.out.met
    have LEN := Lib.hid EV.out.len
    clear EV
    generalize t.out = xs at *
    have hxs : xs.length ≤ l.length := by have h1 := LEN.out; have h2 := pn_le xs; omega
    go_loopw [27] (fun i wr => ∃ (j : Nat) (m : List Int), j ≤ xs.length ∧ i = .int .i64 (j : Int) ∧ Hid (Met (xs.take j) l.length m) ∧ Hid (Own tInt 3 wr (fun k => w3.heap.size ≤ k) (.slice (some ⟨w3.heap.size, 0, none⟩) l.length l.length) m) ∧ Hid (Below w3.heap.size w3 wr)) (fun i _ => xs.length - (intOf i).toNat)
    case atStart => exact ⟨0, _, Nat.zero_le _, rfl, HM, HO, (Below.refl _ _).alloc (Nat.le_refl _) _⟩
    case round =>
      obtain ⟨wa, rfl⟩ : ∃ wa, wa = wr := ⟨wr, rfl⟩
      obtain ⟨j, m, hj, rfl, hmet, ho, hb⟩ := hrel
      have hwr := hb.out.size
      by_cases hlt : j < xs.length
      case neg =>
        obtain rfl : j = xs.length := by omega
        have hmA : ∀ e, e < l.length → m[e]? = some 1 := fun e he => by
          rw [hmet.out.2 e he, List.take_length, MET.out e, if_pos he]; rfl
        have hmL := hmet.out.1
        have HMA := Lib.hid hmA
        have K6 := Lib.hid (K3.out.trans (hb.out.mono s3))
        have XL := Lib.hid (X.out.below hb.out)
        clear hmA hmet
        go_wp2
        go_loopw [138] (fun i wq => ∃ e : Nat, e ≤ l.length ∧ i = .int .i64 (e : Int) ∧ Hid (Below wa.heap.size wa wq)) (fun i _ => l.length - (intOf i).toNat)
        case atStart => exact ⟨0, Nat.zero_le _, rfl, Below.refl _ _⟩
        case round =>
          obtain ⟨wq, rfl⟩ : ∃ wq, wq = wr := ⟨wr, rfl⟩
          obtain ⟨e, he, rfl, hb2⟩ := hrel
          have hwq := hb2.out.size
          have K7 := Lib.hid (K6.out.trans (hb2.out.mono (by have := K6.out.size; omega)))
          by_cases hle : e < l.length
          · have c0 := (ho.out.below hb2.out).cellI (HMA.out e hle)
            go_wp2
            go_roundw
            case rel => exact ⟨e + 1, by omega, by first | (go_num; done) | (go_num; omega), hb2⟩
            case measure => simp [intOf]; omega
          · obtain rfl : e = l.length := by omega
            have hle1 := LEN.out
            have hpe := pn_eq xs
            have hp2 := pn_le xs
            go_wp2_with fail
            refine (pending_calls _ _ _ xs (XL.out.below hb2.out)).mono ?_
            rintro e w8 ⟨rfl, hb8⟩
            have K8 := Lib.hid (K7.out.trans (hb8.mono (K7.out.size)))
            rw [hpe]
            have heq : ((l.length : Int) == 2 * (xs.length : Int) - (pn xs : Int)) = true := beq_iff_eq.mpr (by omega)
            clear hb8
            go_wp2
            go_ret
            exact ⟨rfl, K8.out⟩
      obtain ⟨⟨cth, cop, cf, ct, cr⟩, hc⟩ := getElem?_of_lt hlt
      obtain ⟨i1, i2, i3, i4⟩ := EACH.out j _ hc
      obtain ⟨x, hx, hxd, hxo, hxt⟩ := FRM.out j _ hc
      have TO1 := Lib.hid (TO.out j _ hc)
      have BL1 := Lib.hid (BLANK.out j _ hc)
      simp only at i1 i2 i3 i4 hx hxd hxo hxt
      obtain ⟨f, rfl⟩ := Int.eq_ofNat_of_zero_le i1
      have hf : f < l.length := by omega
      rw [Int.toNat_natCast] at hx
      obtain ⟨b, off, a1, d1, a2, d2, a3, d3, rfl, hbl, hs1, x0, x1, x2, x3, x4, x5, x6, x7, x8, x9, x10, x11, x12⟩ := (X.out.below hb.out).atCallF hc
      obtain ⟨b', off', _, _, _, _, _, _, rfl, hb0, _⟩ := HR3.out.atEvF hx
      obtain ⟨_, _, a1', d1', a2', d2', a3', d3', hA, hbl', hs2, y0, y1, y2, y3, y4, y5, y6, y7, y8, y9, y10, y11⟩ := (HR3.out.below hb.out).atEvF hx
      injection hA with hA
      injection hA with h1 h2
      subst h1 h2
      rw [hxd] at y1
      rw [hxt] at y0
      rw [hxo] at y2 y3 y4 y5 y6
      have HC := Lib.hid hc
      have HX := Lib.hid hx
      have HS1 := Lib.hid hs1
      clear hc hx hs1 hs2
      have g1 : wa.heap.size < wa.heap.size + 1 := by omega
      have g2 : b < wa.heap.size + 1 := by omega
      have g3 : b' < wa.heap.size + 1 := by omega
      go_wp2_with fail
      refine wp_region_sched [(0, true), (1, true), (2, true), (3, true), (4, true), (5, true), (6, true), (7, true), (8, true), (9, true), (10, true), (11, true), (12, true), (13, true), (14, true), (15, true), (16, true), (17, true), (18, true), (19, true), (20, true), (21, true), (22, true), (23, true), (24, true), (25, true), (26, true), (27, true), (28, true), (29, true), (30, true), (31, true), (32, true), (33, true), (34, true), (35, true), (36, true), (37, true), (38, true), (39, true), (40, true), (41, true), (42, true), (43, true), (44, true), (45, true), (46, true)] (Kept (wa.alloc (.cells #[.int .i64 cth, .int .i64 cop.kind, .int .i64 cop.a, .int .i64 cop.b, .int .i64 cop.k, .int .i64 cop.v, .int .i64 (f : Int), .int .i64 ct, .int .i64 cr.err, .int .i64 cr.id, .slice a1 cr.ps.length d1, .slice a2 cr.os.length d2, .slice a3 cr.is.length d3] 36)) (fun _ => True)) (by kernel_rfl) (by kernel_rfl) ?_
      have HS := Lib.hid (Kept.refl (wa.alloc (.cells #[.int .i64 cth, .int .i64 cop.kind, .int .i64 cop.a, .int .i64 cop.b, .int .i64 cop.k, .int .i64 cop.v, .int .i64 (f : Int), .int .i64 ct, .int .i64 cr.err, .int .i64 cr.id, .slice a1 cr.ps.length d1, .slice a2 cr.os.length d2, .slice a3 cr.is.length d3] 36)) (fun _ => True)).drew
      have hn1 : ¬ (l.length ≤ f) := by omega
      have hn2 : ¬ ((l.length : Int) ≤ ct) := by omega
      repeat (refine sched_take (v := ?_) (by simp only [List.getElem?_toArray, List.getElem?_cons_succ, List.getElem?_cons_zero]; rfl) (Or.inl ⟨by rfl, fun W hW => ?_⟩) HS.out ?_; rotate_left; (have hc := fun b o hb => hW.cell b o trivial hb; clear hW; go_simp; with_reducible rfl); simp only [Act.put, List.setIfInBounds_toArray, List.set_cons_zero, List.set_cons_succ])
      refine sched_done ?_
      clear y0 y1 y2 y3 y4 y5 y6 y7 y8 y9 y10 y11 hn1 hn2
      obtain ⟨u, hu, hu1, hu2⟩ := hmet.out.at hf
      have hu3 : (0 : Int) ≤ u + 1 := by omega
      have hu4 : u ≤ 1000000 := by rw [List.length_take] at hu2; omega
      have f0 := ho.out.frozenI f
      have c0 := ho.out.cellI hu
      have g4 : w3.heap.size < wa.heap.size := ho.out.lt _ rfl
      have g5 : w3.heap.size < wa.heap.size + 1 := by omega
      by_cases hct : ct < 0
      · have hbk := BL1.out hct
        have hm2 := Lib.hid (hmet.out.one HC.out rfl hct hu)
        obtain ⟨rfl, rfl⟩ := hbk
        clear hu
        go_wp2_with fail
        have HSm := HS1.out.move (w' := wa.setCell ⟨w3.heap.size, f, none⟩ (.int .i64 (u + 1))) (Same.of_setCell _ _ _ (fun k hk => by have := hk.2; simp only; omega))
        refine (applySame_calls _ (fun _ => True) ResD.zero ResD.zero _ _ _ _ _ _ ((HSm.below (((Below.refl _ _).alloc (Nat.le_refl _) _).drew)).mono fun _ _ _ => trivial) (Sl.nil _ _)).mono ?_
        rintro e w6 ⟨rfl, hb6⟩
        rw [decide_eq_true rfl]
        have K6 := Lib.hid (((((Below.refl (wa.setCell ⟨w3.heap.size, f, none⟩ (.int .i64 (u + 1))).heap.size _).alloc (Nat.le_refl _) _).drew).trans (hb6.mono (by simp))))
        clear hb6
        go_wp2
        go_roundw
        case rel => exact ⟨j + 1, _, by omega, by first | (go_num; done) | (go_num; omega), hm2, Lib.hid ((ho.out.setI f (u + 1)).below K6.out), Lib.hid ((hb.out.setCell (Nat.le_refl _) _).trans (K6.out.mono (by simp; try omega)))⟩
        case measure => simp [intOf]; omega
      · obtain ⟨g, rfl⟩ := Int.eq_ofNat_of_zero_le (show 0 ≤ ct by omega)
        obtain ⟨y, hy, hyd, hyt, hyr⟩ := TO1.out (show (0 : Int) ≤ (g : Int) by omega)
        replace hyt : y.th = cth := hyt
        replace hyr : y.res = cr := hyr
        have hg : g < l.length := by omega
        have hfg : f < g := by omega
        have hne1 : ¬ f = g := by omega
        have hne2 : ¬ g = f := by omega
        replace hy : l[g]? = some y := hy
        obtain ⟨u', hu', hv1, hv2⟩ := hmet.out.at hg
        have hv3 : (0 : Int) ≤ u' + 1 := by omega
        have hv4 : u' ≤ 1000000 := by rw [List.length_take] at hv2; omega
        have hm2 := Lib.hid (hmet.out.two HC.out rfl rfl hfg hu hu')
        have f1 := ho.out.frozenI g
        have c1 := ho.out.cellI hu'
        clear hu hu'
        obtain ⟨b2, off2, a1'', d1'', a2'', d2'', a3'', d3'', hA, _, hs2, y0, y1, y2, y3, y4, y5, y6, y7, y8, y9, y10, y11⟩ := (HR3.out.below hb.out).atEvF hy
        injection hA with hA
        injection hA with h1 h2
        subst h1 h2
        rw [hyd] at y1
        rw [hyt] at y0
        rw [hyr] at y7 y8 y9 y10 y11 hs2
        have HS2 := Lib.hid hs2
        clear hs2 hy y2 y3 y4 y5 y6
        have g7 : ¬ b' = w3.heap.size := by omega
        go_wp2_with fail
        refine wp_region_schedK (fun _ => True) [(0, true), (1, true), (2, true), (3, true), (4, true), (5, true), (6, true), (7, true), (8, true), (9, true), (10, true), (11, true), (12, true), (13, true), (14, true), (15, true), (16, true), (17, true), (18, true), (19, true), (20, true), (21, true), (22, true), (23, true), (24, true), (25, true), (26, true), (27, false), (28, true), (29, true)] (by kernel_rfl) (by kernel_rfl) (fun hS => ?_)
        have HS := Lib.hid hS
        clear hS
        repeat (refine sched_take (v := ?_) (by simp only [List.getElem?_toArray, List.getElem?_cons_succ, List.getElem?_cons_zero]; rfl) (Or.inl ⟨by rfl, fun W hW => ?_⟩) HS.out ?_; rotate_left; (have hc := fun b o hb => hW.cell b o trivial hb; clear hW; go_simp; with_reducible rfl); simp only [Act.put, List.setIfInBounds_toArray, List.set_cons_zero, List.set_cons_succ])
        clear y0 y1 y7 y8 y9 y10 y11
        refine sched_step (by simp only [List.getElem?_toArray, List.getElem?_cons_succ, List.getElem?_cons_zero]; rfl) ?_
        have hsc : Same (fun k => True ∧ k < w3.heap.size) wa ((wa.setCell ⟨w3.heap.size, f, none⟩ (.int .i64 (u + 1))).setCell ⟨w3.heap.size, g, none⟩ (.int .i64 (u' + 1))) := (Same.of_setCell wa _ _ (fun k hk => by have := hk.2; simp only; omega)).trans (by simp) (Same.of_setCell _ _ _ (fun k hk => by have := hk.2; simp only; omega))
        have HSm1 := Lib.hid (HS1.out.move (hsc.mono fun k hk => ⟨trivial, hk.2⟩))
        have HSm2 := Lib.hid (HS2.out.move (hsc.mono fun k hk => ⟨trivial, hk.2⟩))
        clear hsc
        go_wp2_with fail
        refine (applySame_calls _ (fun _ => True) cr cr _ _ _ _ _ _ ((HSm2.out.below (((Below.refl _ _).alloc (Nat.le_refl _) _).drew.drew)).mono fun _ _ _ => trivial) ((HSm1.out.below (((Below.refl _ _).alloc (Nat.le_refl _) _).drew.drew)).mono fun _ _ _ => trivial)).mono ?_
        rintro e w6 ⟨rfl, hb6⟩
        rw [decide_eq_true rfl]
        have HS6 := Lib.hid (HS.out.below hb6)
        have K6 := Lib.hid (((((Below.refl ((wa.setCell ⟨w3.heap.size, f, none⟩ (.int .i64 (u + 1))).setCell ⟨w3.heap.size, g, none⟩ (.int .i64 (u' + 1))).heap.size _).alloc (Nat.le_refl _) _).drew.drew).trans (hb6.mono (by simp))))
        clear hb6
        go_wp2_with fail
        refine sched_on HS6.out ?_
        repeat (refine sched_take (v := ?_) (by simp only [List.getElem?_toArray, List.getElem?_cons_succ, List.getElem?_cons_zero]; rfl) (Or.inl ⟨by rfl, fun W hW => ?_⟩) HS6.out ?_; rotate_left; (have hc := fun b o hb => hW.cell b o trivial hb; clear hW; go_simp; with_reducible rfl); simp only [Act.put, List.setIfInBounds_toArray, List.set_cons_zero, List.set_cons_succ])
        refine sched_done ?_
        go_wp2
        go_roundw
        case rel => exact ⟨j + 1, _, by omega, by first | (go_num; done) | (go_num; omega), hm2, Lib.hid (((ho.out.setI f (u + 1)).setI g (u' + 1)).below K6.out), Lib.hid (((hb.out.setCell (Nat.le_refl _) _).setCell (Nat.le_refl _) _).trans (K6.out.mono (by simp; try omega)))⟩
        case measure => simp [intOf]; omega
end Go.Proofs.Ytgpmkcipogljbaa
