/- LinSerial: what one thread does, one call after the other, has its own order. -/
import Derived.Test.YtpehmmdbjakkpaaLinSer
import Derived.Test.YtpehmmdbjakkpaaLinFoundW
import Derived.Test.YtpehmmdbjakkpaaAllA
namespace Go.Proofs.Ytpehmmdbjakkpaa
open Go.RowKit Go.Shelf
set_option linter.unusedSimpArgs false
set_option linter.unusedVariables false
theorem elemEvS : ElemOf Try.prog 88 96 tEv.sz 144 (.agg #[.int .i64 0, .bool false, .int .i64 0, .int .i64 0, .int .i64 0, .int .i64 0, .int .i64 0, .int .i64 0, .int .i64 0, .slice none 0 0, .slice none 0 0, .slice none 0 0]) := ⟨Try.underlying88, by kernel_rfl, rfl⟩
theorem do_few {c : CfgD} {g : GraphD} {o : OpD} {k : Nat} (hg : Inv c g k) (hk : k ≤ 1000000) : (doOf c g o).2.few := by
  have h1 := hg.le
  have h2 := hg.lp
  unfold doOf
  cases h : chg c g o with
  | some z => exact ⟨by simp, by simp, by simp⟩
  | none =>
    simp only
    unfold lookOf
    split
    · refine ⟨?_, by simp, by simp⟩
      unfold getOf
      split
      · simp
      · split
        · rename_i x hx
          have := psum_mem (List.mem_of_getElem? hx)
          simp only
          omega
        · simp
    · split
      · unfold nearOf
        split
        · exact ⟨by simp, by simp, by simp⟩
        · refine ⟨by simp, ?_, ?_⟩
          · simp only [nearO, List.length_map]
            have := List.length_filter_le (fun x : EdgeD => x.frm == o.a) g.edges
            omega
          · simp only [nearI, List.length_map]
            have := List.length_filter_le (fun x : EdgeD => x.to == o.a) g.edges
            omega
      · exact ⟨by simp, by simp, by simp⟩
theorem evsZ_few {c : CfgD} {ops : List OpD} (hc : c.ok) (hn : ops.length ≤ 10) : ∀ x ∈ evsZ (zipZ c ops), x.res.few := by
  intro x hx
  rcases (evsZ_mem _ x hx).2 with h | ⟨z, hz, h⟩
  · rw [h]; exact ⟨by simp [ResD.nil], by simp [ResD.nil], by simp [ResD.nil]⟩
  · rw [h]
    obtain ⟨i, hi⟩ := List.getElem?_of_mem hz
    have hlt : i < ops.length := by
      have := (List.getElem?_eq_some_iff.1 hi).1
      rw [zipZ_len] at this
      exact this
    obtain ⟨o, ho⟩ := getElem?_of_lt hlt
    rw [zipZ_get ho] at hi
    injection hi with hi
    rw [← hi]
    have := (Inv.new hc).run ops (k := i) (by omega) (by omega)
    exact do_few this (by omega)
/-- What stands when k operations are written. -/
structure LS (B2 BV : Nat) (V : World) (c : CfgD) (ops : List OpD) (k : Nat) (vl vw : Value) (W : World) : Prop where
  le : k ≤ ops.length
  be : Below BV V W
  ol : Own tEv 96 W (fun j => B2 ≤ j ∧ vw.ownBlock ≠ some j) vl (evsZ ((zipZ c ops).take k))
  bl : ∀ j, vl.ownBlock = some j → BV ≤ j
  ow : Own tInt 3 W (fun j => BV ≤ j) vw (ordI k)
theorem evs_next {c : CfgD} {ops : List OpD} {k : Nat} {o : OpD} (h : ops[k]? = some o) : evsZ ((zipZ c ops).take (k + 1)) = evsZ ((zipZ c ops).take k) ++ [⟨0, false, o, ResD.nil⟩, ⟨0, true, o, (doOf c (stG c .new ops k) o).2⟩] := by
  rw [List.take_add_one, zipZ_get h, evsZ_append]
  rfl
set_option maxRecDepth 100000 in
set_option maxHeartbeats 16000000 in
theorem linSerial_walk (w : World) (c : CfgD) (v : Value) (ops : List OpD) {S : Nat → Prop} (hl : Row tOp w S v ops) : Calls Try.prog 18 #[c.val, v] w fun e w' => e = .returned (.bool true) ∧ Below w.heap.size w w' := by
  obtain ⟨A, cA, rfl⟩ := hl.slice
  have hm1 := hl.len
  unfold maxLen at hm1
  have H := Lib.hid hl
  clear hl
  unfold CfgD.val
  obtain ⟨n, hn⟩ : ∃ n, n = ops.length := ⟨_, rfl⟩
  have HN := Lib.hid hn
  rw [← hn] at hm1 ⊢
  rw [← hn] at H
  clear hn
  obtain ⟨W0, hW⟩ : ∃ W0, W0 = w.alloc (.cells #[.int .i64 c.nodes, .int .i64 c.edges, .int .i64 c.props, .int .i64 c.ids, .int .i64 c.eids] 23) := ⟨_, rfl⟩
  have K0 := Lib.hid (show Below w.heap.size w W0 by rw [hW]; exact (Below.refl _ w).alloc (Nat.le_refl _) _)
  have s0 : w.heap.size < W0.heap.size := by rw [hW]; simp
  have C0 := Lib.hid (show Box5 W0 w.heap.size _ _ _ _ _ from Box5.of (n := 23) (by rw [hW]; exact heap_alloc_new w _))
  go_enter Try.func18, Try.ntmps18
  go_wp2_with fail
  rw [← hW]
  clear hW
  refine (live13_calls W0).mono ?_
  rintro e w1 ⟨rfl, hb⟩
  have K1 := Lib.hid (K0.out.trans (hb.mono K0.out.size))
  have C1 := Lib.hid (C0.out.keep (hb.block _ s0))
  have s1 := hb.size
  clear hb C0
  obtain ⟨c0, c1, c2, c3, c4, cf⟩ := C1.out
  have l1 : w.heap.size < w1.heap.size := by omega
  go_wp2_with fail
  refine (ref03_calls w1 c).mono ?_
  rintro e w2 ⟨x, rfl, hx, hb⟩
  have K2 := Lib.hid (K1.out.trans (hb.mono K1.out.size))
  have C2 := Lib.hid (C1.out.keep (hb.block _ l1))
  have s2 := hb.size
  clear hb C1 c0 c1 c2 c3 c4 cf
  rcases hx with ⟨rfl, hc⟩ | ⟨rfl, hc⟩
  case inr =>
    clear hc
    go_wp2
    go_ret
    exact ⟨rfl, K2.out⟩
  have HC := Lib.hid hc
  clear hc
  by_cases n1 : 10 < (n : Int)
  · go_wp2
    go_ret
    exact ⟨rfl, K2.out⟩
  have hn10 : n ≤ 10 := by omega
  obtain ⟨c0, c1, c2, c3, c4, cf⟩ := C2.out
  have l2 : w.heap.size < w2.heap.size := by omega
  go_wp2_with fail
  refine (all_calls w2 S c ops _ (H.out.below K2.out) HC.out (by have := HN.out; omega)).mono ?_
  rintro e w3 ⟨vn, ve, vr, rvs, rfl, hgr, hor, hrv, hb⟩
  obtain ⟨g, hg⟩ : ∃ g, g = stG c .new ops ops.length := ⟨_, rfl⟩
  rw [← hg] at hgr ⊢
  obtain ⟨⟨A3, c3', rfl⟩, ⟨A4, c4', rfl⟩⟩ := hgr.slices
  obtain ⟨A5, c5, rfl⟩ := hor.slice
  have hrn : rvs.length = n := by
    have := hrv.1
    rw [resG_len (Nat.le_refl _)] at this
    rw [this, HN.out]
  rw [hrn] at hor hgr hrv ⊢
  obtain ⟨V, hV⟩ : ∃ V, V = w3.alloc (.cells #[.slice A3 g.nodes.length c3', .slice A4 g.edges.length c4', .int .i64 g.nn, .int .i64 g.ne] 27) := ⟨_, rfl⟩
  have hbV : Below w3.heap.size w3 V := by rw [hV]; exact (Below.refl _ w3).alloc (Nat.le_refl _) _
  have hbb : Below w2.heap.size w2 V := hb.trans (hbV.mono hb.size)
  have G3 := Lib.hid (show Box4 V w3.heap.size _ _ _ _ from by rw [hV]; exact Box4.made w3 27 (.slice A3 g.nodes.length c3') (.slice A4 g.edges.length c4') (.int .i64 g.nn) (.int .i64 g.ne))
  have C3 := Lib.hid (C2.out.keep (hbb.block _ l2))
  have K3 := Lib.hid (K2.out.trans (hbb.mono K2.out.size))
  have GO := Lib.hid ((hgr.below hbV).mono (S' := fun j => w2.heap.size ≤ j ∧ j < V.heap.size) fun j h1 h2 => ⟨h1.1, h2⟩)
  have RR := Lib.hid (hor.row.below hbV)
  have RV := Lib.hid ((hrv.below hbV).mono (S' := fun j => w2.heap.size ≤ j ∧ j < V.heap.size) fun j h1 h2 => ⟨h1.1, h2⟩)
  have HRN := Lib.hid hrn
  have HG := Lib.hid hg
  have s3 := hb.size
  have s4 : w3.heap.size < V.heap.size := by rw [hV]; simp
  clear hb hbV hbb hgr hor hrv hrn hg C2 c0 c1 c2 c3 c4 cf
  go_wp2_with fail
  rw [← hV]
  clear hV
  have HO0 := Lib.hid (H.out.below K3.out)
  clear H
  go_loopw [7, 8, 37] (fun vl vw i wr => ∃ (k : Nat), i = .int .i64 (k : Int) ∧ Hid (LS w2.heap.size V.heap.size V c ops k vl vw wr)) (fun _ _ i _ => n - (intOf i).toNat)
  case atStart => exact ⟨0, rfl, Nat.zero_le _, Below.refl _ _, Own.nil _ _ _ _, fun j hj => by simp [Value.ownBlock] at hj, Own.nil _ _ _ _⟩
  case round =>
    obtain ⟨k, rfl, hL⟩ := hrel
    have hk := hL.out.le
    rw [← HN.out] at hk
    have hwr := hL.out.be.size
    obtain ⟨AL, dL, eL⟩ := hL.out.ol.slice
    obtain ⟨AW, dW, eW⟩ := hL.out.ow.slice
    rw [evsZ_len, List.length_take, zipZ_len, ← HN.out, Nat.min_eq_left hk] at eL
    rw [ordI_len] at eW
    subst eL eW
    have HL := hL
    clear hL
    by_cases hlt : k < n
    · obtain ⟨x, hx⟩ := getElem?_of_lt (show k < ops.length by have := HN.out; omega)
      obtain ⟨b, off, rfl, _, hbl, o0, o1, o2, o3, o4⟩ := (HO0.out.below HL.out.be).atOp hx
      obtain ⟨rv, hrv⟩ := getElem?_of_lt (show k < rvs.length by have := HRN.out; omega)
      have hres : (resG c .new ops ops.length)[k]? = some (doOf c (stG c .new ops k) x).2 := resG_get (by have := HN.out; omega) (Nat.le_refl _) hx
      have R1 := Lib.hid (RV.out.2 k rv _ hrv hres)
      have HRV := Lib.hid hrv
      have HX := Lib.hid hx
      have hll : (k : Int) < (n : Int) := by omega
      clear hx hrv hres
      go_wp2_with fail
      obtain ⟨X0, hX0⟩ : ∃ X0, X0 = wr.alloc (.cells #[.int .i64 x.k, .int .i64 x.a, .int .i64 x.b, .int .i64 x.p, .int .i64 x.v] 73) := ⟨_, rfl⟩
      have hb0 : Below wr.heap.size wr X0 := by rw [hX0]; exact (Below.refl _ wr).alloc (Nat.le_refl _) _
      have P0 := Lib.hid (show Box5 X0 wr.heap.size _ _ _ _ _ from Box5.of (n := 73) (by rw [hX0]; exact heap_alloc_new wr (.cells #[.int .i64 x.k, .int .i64 x.a, .int .i64 x.b, .int .i64 x.p, .int .i64 x.v] 73)))
      have sX0 : wr.heap.size < X0.heap.size := by rw [hX0]; simp
      rw [← hX0]
      have OL0 := Lib.hid (HL.out.ol.below hb0)
      have OW0 := Lib.hid (HL.out.ow.below hb0)
      have BE0 := Lib.hid (HL.out.be.trans (hb0.mono hwr))
      have BL := Lib.hid HL.out.bl
      have HBW := Lib.hid HL.out.ow.1
      have HLT := Lib.hid HL.out.ol.lt
      obtain ⟨b', off', rfl, ⟨hb1', hb2'⟩, hbl', r0, r1, r2, r3, r4⟩ := (RR.out.bound.below BE0.out).atRV HRV.out
      obtain ⟨row, hrow⟩ : ∃ row, row = (Value.slice AL (2 * k) dL).ownBlock := ⟨_, rfl⟩
      have n1' : ¬ row = some b' := fun e => by have := BL.out b' (by rw [← hrow]; exact e); omega
      have n2' : ¬ row = some wr.heap.size := fun e => by have := HLT.out wr.heap.size (by rw [← hrow]; exact e); omega
      have HROW := Lib.hid hrow
      clear hX0 hb0 HL o0 o1 o2 o3 o4 hrow hb1' hb2'
      refine wp_region_schedK (fun j => ¬ row = some j) [(0, true), (1, true), (2, true), (3, true), (4, true), (5, true), (6, true), (7, true), (8, true), (9, false), (10, false), (11, true)] (by kernel_rfl) (by kernel_rfl) (fun hS => ?_)
      have HK := Lib.hid hS
      clear hS
      have KD := Lib.hid (Below.refl X0.heap.size X0).drew
      revert HK KD
      generalize X0.drew = Wd
      intro HK KD
      obtain ⟨p0, p1, p2, p3, p4, pf⟩ := P0.out
      repeat (refine sched_take (v := ?_) (by simp only [List.getElem?_toArray, List.getElem?_cons_succ, List.getElem?_cons_zero]; rfl) (Or.inl ⟨by rfl, fun W hW => ?_⟩) HK.out ?_; rotate_left; (have hc := fun b o hn hb => hW.cell b o hn hb; clear hW; go_simp; with_reducible rfl); simp only [Act.put, List.setIfInBounds_toArray, List.set_cons_zero, List.set_cons_succ])
      refine sched_step (by simp only [List.getElem?_toArray, List.getElem?_cons_succ, List.getElem?_cons_zero]; rfl) ?_
      obtain ⟨V1, hV1⟩ : ∃ V1, V1 = Wd.alloc (.cells #[.int .i64 0, .bool false, .int .i64 x.k, .int .i64 x.a, .int .i64 x.b, .int .i64 x.p, .int .i64 x.v, .int .i64 0, .int .i64 0, .slice none 0 0, .slice none 0 0, .slice none 0 0, .int .i64 0, .bool true, .int .i64 x.k, .int .i64 x.a, .int .i64 x.b, .int .i64 x.p, .int .i64 x.v, .int .i64 rv.st, .int .i64 rv.id, .slice rv.a1 rv.n1 rv.c1, .slice rv.a2 rv.n2 rv.c2, .slice rv.a3 rv.n3 rv.c3] 96) := ⟨_, rfl⟩
      have hbV1 : Below Wd.heap.size Wd V1 := by rw [hV1]; exact (Below.refl _ Wd).alloc (Nat.le_refl _) _
      have sD := KD.out.size
      have hb01 : Below X0.heap.size X0 V1 := KD.out.trans (hbV1.mono sD)
      have BE1 := Lib.hid (BE0.out.trans (hb01.mono BE0.out.size))
      have OL1 := Lib.hid (OL0.out.below hb01)
      have OW1 := Lib.hid (OW0.out.below hb01)
      have sV1 : V1.heap.size = Wd.heap.size + 1 := by rw [hV1]; simp
      have HB := Lib.hid (show Row tEv V1 (fun j => (w2.heap.size ≤ j ∧ j < V.heap.size) ∨ j = Wd.heap.size) (.slice (some ⟨Wd.heap.size, 0, none⟩) 2 2) [⟨0, false, x, ResD.nil⟩, ⟨0, true, x, (doOf c (stG c .new ops k) x).2⟩] from by
        have h2 : Sl V1 (fun j => (w2.heap.size ≤ j ∧ j < V.heap.size) ∨ j = Wd.heap.size) (doOf c (stG c .new ops k) x).2 (.slice rv.a1 rv.n1 rv.c1) (.slice rv.a2 rv.n2 rv.c2) (.slice rv.a3 rv.n3 rv.c3) := ⟨(R1.out.ps.below BE1.out).mono fun _ h _ => .inl h, (R1.out.os.below BE1.out).mono fun _ h _ => .inl h, (R1.out.is.below BE1.out).mono fun _ h _ => .inl h⟩
        have hmade := Row.made (t := tEv) (W := V1) (b := Wd.heap.size) (e := 96) (S := fun j => (w2.heap.size ≤ j ∧ j < V.heap.size) ∨ j = Wd.heap.size) [[.int .i64 0, .bool false, .int .i64 x.k, .int .i64 x.a, .int .i64 x.b, .int .i64 x.p, .int .i64 x.v, .int .i64 0, .int .i64 0, .slice none 0 0, .slice none 0 0, .slice none 0 0], [.int .i64 0, .bool true, .int .i64 x.k, .int .i64 x.a, .int .i64 x.b, .int .i64 x.p, .int .i64 x.v, .int .i64 rv.st, .int .i64 rv.id, .slice rv.a1 rv.n1 rv.c1, .slice rv.a2 rv.n2 rv.c2, .slice rv.a3 rv.n3 rv.c3]] [⟨0, false, x, ResD.nil⟩, ⟨0, true, x, (doOf c (stG c .new ops k) x).2⟩] (by rw [hV1]; exact heap_alloc_new _ _) (fun cs h => by
          simp only [List.mem_cons, List.not_mem_nil, or_false] at h
          rcases h with rfl | rfl <;> rfl) (fun j y h => by
          match j, h with
          | 0, h => simp at h; subst h; exact ⟨_, rfl, _, _, _, Sl.nil _ _, rfl⟩
          | 1, h => simp at h; subst h; exact ⟨_, rfl, _, _, _, h2, by rw [R1.out.st, R1.out.id]⟩) (.inr rfl) (by unfold maxLen; simp)
        exact hmade)
      have HK1 := Lib.hid (HK.out.below hbV1)
      go_wp2_with fail
      rw [← hV1]
      clear hV1 hbV1 hb01 HK
      refine sched_on HK1.out ?_
      refine sched_step (by simp only [List.getElem?_toArray, List.getElem?_cons_succ, List.getElem?_cons_zero]; rfl) ?_
      have hwl := HBW.out
      have hol := OL1.out.1
      have hlo := OL0.out.lt
      have hlw := OW0.out.lt
      refine (wpList_own_append (ty := tEv) (W := V1) (S := fun j => w2.heap.size ≤ j ∧ (Value.slice AW k dW).ownBlock ≠ some j) (Sy := fun j => (w2.heap.size ≤ j ∧ j < V.heap.size) ∨ j = Wd.heap.size) (v := .slice AL (2 * k) dL) (xs := evsZ ((zipZ c ops).take k)) (ys := [⟨0, false, x, ResD.nil⟩, ⟨0, true, x, (doOf c (stG c .new ops k) x).2⟩]) rfl _ _ 88 96 144 _ rfl elemEvS rfl OL1.out (some ⟨Wd.heap.size, 0, none⟩) 2 2 rfl HB.out rfl ?bb ?bl ?hnew ?hin ?_)
      case bb => rw [evsZ_len, List.length_take]; simp; omega
      case bl => rw [evsZ_len, List.length_take]; unfold maxLen; simp; omega
      case hnew => exact ⟨by omega, fun e => by have := hlw _ e; omega⟩
      case hin =>
        rintro j (⟨h1, h2⟩ | rfl) _
        · exact ⟨⟨h1, fun e => by have := hwl _ e; (try simp only at this); omega⟩, fun e => by have := BL.out _ e; omega⟩
        · exact ⟨⟨by omega, fun e => by have := hlw _ e; omega⟩, fun e => by have := hlo _ e; omega⟩
      intro v1 U hown hg hor
      have s1U : V1.heap.size ≤ U.heap.size := hg.size
      have BE2 := Lib.hid (below_of_grown BE1.out hg (fun j hj => BL.out j hj))
      have OW2 := Lib.hid (OW1.out.keepFlat (w' := U) fun j hj => hg.block j (OW1.out.lt j hj) (fun e => by have := (hol j e.symm).2; exact this hj))
      have HK2 := Lib.hid (show Kept X0 (fun j => ¬ row = some j) U from ⟨Nat.le_trans HK1.out.1 s1U, fun j hj hl => (hg.block j (Nat.lt_of_lt_of_le hl HK1.out.1) (fun e => hj (by rw [HROW.out]; exact e.symm))).trans (HK1.out.2 j hj hl)⟩)
      have OL2 := Lib.hid (show Own tEv 96 U (fun j => w2.heap.size ≤ j ∧ (Value.slice AW k dW).ownBlock ≠ some j) v1 (evsZ ((zipZ c ops).take (k + 1))) from by rw [evs_next HX.out]; exact hown)
      have BL2 := Lib.hid (show ∀ j, v1.ownBlock = some j → V.heap.size ≤ j from fun j hj => by
        rcases hor with e | e
        · rw [e] at hj; exact BL.out j hj
        · rw [e] at hj; injection hj with hj; omega)
      clear hown hg hor hwl hol hlo hlw HK1 OW1 OL1 BE1 OL0 BE0 BL HROW HLT p0 p1 p2 p3 p4 pf r0 r1 r2 r3 r4 HB
      refine sched_on HK2.out ?_
      repeat (refine sched_take (v := ?_) (by simp only [List.getElem?_toArray, List.getElem?_cons_succ, List.getElem?_cons_zero]; rfl) (Or.inl ⟨by rfl, fun W hW => ?_⟩) HK2.out ?_; rotate_left; (skip; clear hW; go_simp; with_reducible rfl); simp only [Act.put, List.setIfInBounds_toArray, List.set_cons_zero, List.set_cons_succ])
      refine sched_done ?_
      have sU := BE2.out.size
      go_wp2_with (at_builtin; refine wpList_own_append1 (ty := tInt) (w := V) (S := fun j => V.heap.size ≤ j) (Sy := fun _ => False) (v := .slice AW k dW) (xs := ordI k) (x := (k : Int)) rfl _ _ 90 3 8 _ rfl elemInts rfl ?hown rfl (by simp <;> omega) rfl ?hB ?hSw ?hSn ?hbytes ?hlen (fun _ h => h.elim) ?_)
      case hown => exact OW2.out
      case hB => exact BE2.out
      case hSw => exact fun j hj => hj
      case hSn => exact fun j hj _ => hj
      case hbytes => rw [ordI_len]; omega
      case hlen => rw [ordI_len]; unfold maxLen; omega
      intro v2 U2 hown hb2 hg hor
      go_wp2
      go_roundw
      case rel =>
        have e1 := ordI_succ k
        refine ⟨k + 1, by first | (go_num; done) | (go_num; omega), by have := HN.out; omega, hb2, ?_, BL2.out, by rw [e1]; exact hown⟩
        refine (OL2.out.bound.move (w' := U2) (Same.of_grown hg fun j hj e => hj.1.2 e.symm)).mono fun j hj _ => ⟨hj.1.1, fun e => ?_⟩
        rcases hor with e2 | e2
        · rw [e2] at e; exact hj.1.2 e
        · rw [e2] at e; injection e with e; have := hj.2; omega
      case measure => simp [intOf]; omega
    · obtain rfl : k = n := by omega
      have hall : (zipZ c ops).take k = zipZ c ops := by rw [HN.out, ← zipZ_len c ops, List.take_length]
      have C4 := Lib.hid (C3.out.keep (HL.out.be.block _ (by have := K3.out.size; omega)))
      obtain ⟨q0, q1, q2, q3, q4, qf⟩ := C4.out
      have lC : w.heap.size < wr.heap.size := by omega
      have KR := Lib.hid (K3.out.trans (HL.out.be.mono K3.out.size))
      have OLR := Lib.hid (show Row tEv wr (fun _ => True) (.slice AL (2 * k) dL) (evsZ (zipZ c ops)) from by have := HL.out.ol.row; rw [hall] at this; exact this.mono fun _ _ _ => trivial)
      have OWR := Lib.hid HL.out.ow.row
      have G4 := Lib.hid (G3.out.keep (HL.out.be.block _ s4))
      have GG4 := Lib.hid (GO.out.below HL.out.be)
      clear hall HL C3 G3 GO C4
      go_wp2_with fail
      refine (search_calls wr _ c _ (evsZ (zipZ c ops)) OLR.out (by rw [evsZ_len, zipZ_len]; have := HN.out; omega) (evsZ_few HC.out (by have := HN.out; omega)) (fun y hy => by rw [(evsZ_mem _ y hy).1]; unfold okI; omega)).mono ?_
      rintro e U hp
      rw [serial_law HC.out (by have := HN.out; omega)] at hp
      obtain ⟨vo, un, ue, rfl, hro, hgr, hb⟩ := hp
      simp only at hro hgr ⊢
      rw [← HG.out] at hgr ⊢
      obtain ⟨⟨A6, c6, rfl⟩, ⟨A7, c7, rfl⟩⟩ := hgr.slices
      obtain ⟨A8, c8, rfl⟩ := hro.slice
      obtain ⟨Y, hY⟩ : ∃ Y, Y = U.alloc (.cells #[.slice A6 g.nodes.length c6, .slice A7 g.edges.length c7, .int .i64 g.nn, .int .i64 g.ne] 27) := ⟨_, rfl⟩
      have hbY : Below U.heap.size U Y := by rw [hY]; exact (Below.refl _ U).alloc (Nat.le_refl _) _
      have hby : Below wr.heap.size wr Y := hb.trans (hbY.mono hb.size)
      have ROY := Lib.hid (hro.below hbY)
      have GRY := Lib.hid (hgr.below hbY)
      have OWY := Lib.hid (OWR.out.below hby)
      have GGY := Lib.hid (GG4.out.below hby)
      have G5 := Lib.hid (G4.out.keep (hby.block _ (by omega)))
      have G6 := Lib.hid (show Box4 Y U.heap.size _ _ _ _ from by rw [hY]; exact Box4.made U 27 (.slice A6 g.nodes.length c6) (.slice A7 g.edges.length c7) (.int .i64 g.nn) (.int .i64 g.ne))
      have KY := Lib.hid (KR.out.trans (hby.mono KR.out.size))
      have sY : U.heap.size < Y.heap.size := by rw [hY]; simp
      have sR := hb.size
      clear hb hbY hby hro hgr G4 OWR GG4 OLR q0 q1 q2 q3 q4 qf
      go_wp2_with fail
      rw [← hY]
      clear hY
      refine (same02_calls Y _ _ _ _ (ordI ops.length) (ordI k) ROY.out OWY.out (by rw [ordI_len]; have := HN.out; omega)).mono ?_
      rintro e Z ⟨rfl, hb⟩
      have hd : decide (ordI ops.length = ordI k) = true := by rw [HN.out]; simp
      rw [hd]
      have G7 := Lib.hid (G5.out.keep (hb.block _ (by omega)))
      have G8 := Lib.hid (G6.out.keep (hb.block _ sY))
      have GGZ := Lib.hid (GGY.out.below hb)
      have GRZ := Lib.hid (GRY.out.below hb)
      have KZ := Lib.hid (KY.out.trans (hb.mono KY.out.size))
      have sZ := hb.size
      clear hb hd G5 G6 GGY GRY
      obtain ⟨g0, g1, g2, g3, gf⟩ := G7.out
      have l7 : w3.heap.size < Z.heap.size := by omega
      obtain ⟨h0, h1, h2, h3, hf⟩ := G8.out
      have l8 : U.heap.size < Z.heap.size := by omega
      go_wp2_with fail
      refine (same_calls Z (fun _ => True) g g _ _ _ _ (GGZ.out.mono fun _ _ _ => trivial) (GRZ.out.mono fun _ _ _ => trivial)).mono ?_
      rintro e Z2 ⟨bb, rfl, hbb, hb⟩
      obtain rfl : bb = true := hbb.2 rfl
      have K9 := Lib.hid (KZ.out.trans (hb.mono KZ.out.size))
      clear hb hbb
      go_wp2
      go_ret
      exact ⟨rfl, K9.out⟩
end Go.Proofs.Ytpehmmdbjakkpaa
