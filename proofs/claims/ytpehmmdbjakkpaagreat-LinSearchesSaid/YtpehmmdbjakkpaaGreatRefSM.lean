/- tendrilref13.find. tendrilref13.Search and Reach. -/
import Derived.Test.YtpehmmdbjakkpaaGreatRefTM
import Derived.Test.YtpehmmdbjakkpaaGreatRefSameB
set_option linter.unusedSimpArgs false
set_option linter.unusedVariables false
namespace Go.Proofs.YtpehmmdbjakkpaaGreat
open Go.RowKit Go.Shelf
def FRes (W : World) (S : Nat → Prop) (r : Option PathD) (A : Option Addr) (n c : Nat) (A1 : Option Addr) (n1 k1 : Nat) (A2 : Option Addr) (n2 k2 : Nat) (gn ge : Int) (b : Bool) : Prop := match r with
 | some x => b = true ∧ gn = x.g.nn ∧ ge = x.g.ne ∧ Row tInt W S (.slice A n c) x.order ∧ Gr W S x.g (.slice A1 n1 k1) (.slice A2 n2 k2)
 | none => b = false
theorem FRes.move {W W' : World} {S : Nat → Prop} {r : Option PathD} {A : Option Addr} {n c : Nat} {A1 : Option Addr} {n1 k1 : Nat} {A2 : Option Addr} {n2 k2 : Nat} {gn ge : Int} {b : Bool} (h : FRes W S r A n c A1 n1 k1 A2 n2 k2 gn ge b) (hs : Same S W W') : FRes W' S r A n c A1 n1 k1 A2 n2 k2 gn ge b := by
 cases r with
 | none => exact h
 | some x => obtain ⟨h1, h2, h3, h4, h5⟩ := h; exact ⟨h1, h2, h3, h4.move hs, h5.move hs⟩
theorem FRes.below {W W' : World} {S : Nat → Prop} {r : Option PathD} {A : Option Addr} {n c : Nat} {A1 : Option Addr} {n1 k1 : Nat} {A2 : Option Addr} {n2 k2 : Nat} {gn ge : Int} {b : Bool} (h : FRes W S r A n c A1 n1 k1 A2 n2 k2 gn ge b) (hb : Below W.heap.size W W') : FRes W' S r A n c A1 n1 k1 A2 n2 k2 gn ge b := h.move (.of_below hb)
theorem FRes.mono {W : World} {S S' : Nat → Prop} {r : Option PathD} {A : Option Addr} {n c : Nat} {A1 : Option Addr} {n1 k1 : Nat} {A2 : Option Addr} {n2 k2 : Nat} {gn ge : Int} {b : Bool} (h : FRes W S r A n c A1 n1 k1 A2 n2 k2 gn ge b) (hs : ∀ k, S k → k < W.heap.size → S' k) : FRes W S' r A n c A1 n1 k1 A2 n2 k2 gn ge b := by
 cases r with
 | none => exact h
 | some x => obtain ⟨h1, h2, h3, h4, h5⟩ := h; exact ⟨h1, h2, h3, h4.mono hs, h5.mono hs⟩
def FindPost (w : World) (S : Nat → Prop) (r : Option PathD) (e : Ending) (w' : World) : Prop := ∃ A n c A1 n1 k1 A2 n2 k2 gn ge b, e = .returned (.tuple #[.slice A n c, .agg #[.slice A1 n1 k1, .slice A2 n2 k2, .int .i64 gn, .int .i64 ge], .bool b]) ∧ FRes w' (fun k => S k ∨ w.heap.size ≤ k) r A n c A1 n1 k1 A2 n2 k2 gn ge b ∧ Below w.heap.size w w'
noncomputable def goodE (each : Bool) (want : GraphD) : PathD → Bool := fun x => each || reachB want x
def FindC (sd : SD) (each : Bool) (want : GraphD) (f : Nat) : Prop := ∀ (w : World) (S : Nat → Prop) (p : PathD) (vA vn ve vP wn we : Value), Row tCall w (fun _ => True) vA sd.calls → Gr w S p.g vn ve → Row tInt w S vP p.order → Gr w (fun _ => True) want wn we → OrdP sd p → sd.calls.length ≤ f + p.order.length → Calls Tryz.prog 29 #[sd.c.val, vA, .agg #[vn, ve, .int .i64 p.g.nn, .int .i64 p.g.ne], vP, .bool each, .agg #[wn, we, .int .i64 want.nn, .int .i64 want.ne]] w (FindPost w S (findF sd (goodE each want) f p))
structure FBx (w : World) (c : CfgD) (g want : GraphD) (vn ve wn we : Value) (W : World) : Prop where
 K : Below w.heap.size w W
 hl : w.heap.size + 4 ≤ W.heap.size
 cf : Box5 W w.heap.size (.int .i64 c.nodes) (.int .i64 c.edges) (.int .i64 c.props) (.int .i64 c.ids) (.int .i64 c.eids)
 bg : Box4 W (w.heap.size + 1) vn ve (.int .i64 g.nn) (.int .i64 g.ne)
 bw : Box4 W (w.heap.size + 1 + 1) wn we (.int .i64 want.nn) (.int .i64 want.ne)
 b0 : Box4 W (w.heap.size + 1 + 1 + 1) (.slice none 0 0) (.slice none 0 0) (.int .i64 0) (.int .i64 0)
theorem FBx.below {w : World} {c : CfgD} {g want : GraphD} {vn ve wn we : Value} {W W' : World} (h : FBx w c g want vn ve wn we W) (hb : Below W.heap.size W W') : FBx w c g want vn ve wn we W' := by
 have h1 := h.hl
 exact ⟨h.K.trans (hb.mono h.K.size), Nat.le_trans h1 hb.size, h.cf.keep (hb.block _ (by omega)), h.bg.keep (hb.block _ (by omega)), h.bw.keep (hb.block _ (by omega)), h.b0.keep (hb.block _ (by omega))⟩
theorem lastB_len {sd : SD} {order : List Int} (h : order.length = 0) : lastB sd order = true := by
 rw [List.length_eq_zero_iff.1 h]
 rfl
theorem lastB_last {sd : SD} {order : List Int} {k : Nat} {c : CallD} (h : order[order.length - 1]? = some (k : Int)) (hc : sd.calls[k]? = some c) : lastB sd order = decide (0 ≤ c.to) := by
 unfold lastB
 rw [List.getLast?_eq_getElem?, h]
 simp only
 rw [toOf_at hc]
theorem leafY {X Z : World} {bT : Nat} {S : Nat → Prop} {r : Option PathD} {A : Option Addr} {n c : Nat} {A1 : Option Addr} {n1 k1 : Nat} {A2 : Option Addr} {n2 k2 : Nat} {gn ge : Int} {b : Bool} {u0 u1 u2 u3 : Value} (hK : Below X.heap.size X Z) (hb : X.heap.size ≤ bT) (hl : bT < Z.heap.size) (hG : Box4 Z bT u0 u1 u2 u3) (hF : FRes Z (fun j => S j ∧ ¬ j = bT) r A n c A1 n1 k1 A2 n2 k2 gn ge b) (v0 v1 v2 v3 : Value) :
  Hid (Below X.heap.size X (set4 Z bT v0 v1 v2 v3)) ∧ Hid (Box4 (set4 Z bT v0 v1 v2 v3) bT v0 v1 v2 v3) ∧ Hid (FRes (set4 Z bT v0 v1 v2 v3) (fun j => S j ∧ ¬ j = bT) r A n c A1 n1 k1 A2 n2 k2 gn ge b) ∧ bT < (set4 Z bT v0 v1 v2 v3).heap.size :=
 ⟨Lib.hid (set4_below hK hb _ _ _ _), Lib.hid (hG.set _ _ _ _), Lib.hid (hF.move fun j hj _ => set4_heap _ _ _ _ _ _ _ hj.2), by rw [set4_size]; exact hl⟩
set_option maxRecDepth 100000 in
set_option maxHeartbeats 64000000 in
theorem find_step (sd : SD) (each : Bool) (want : GraphD) (hc : sd.c.ok) (hl : sd.calls.length ≤ 10) (hu : UniqF sd) (hneed : sd.need = (sd.calls.length : Int) - pendOf sd.calls) (f : Nat) (IH : ∀ f', f = f' + 1 → FindC sd each want f') : FindC sd each want f := by
 intro w S p vA vn ve vP wn we hA hg hP hw hp hf
 obtain ⟨A, cA, rfl⟩ := hA.slice
 obtain ⟨AO, cO, rfl⟩ := hP.slice
 obtain ⟨⟨A3, c3, rfl⟩, ⟨A4, c4, rfl⟩⟩ := hg.slices
 obtain ⟨⟨A5, c5, rfl⟩, ⟨A6, c6, rfl⟩⟩ := hw.slices
 have HC := Lib.hid hc
 have HL := Lib.hid hl
 have HU := Lib.hid hu
 have HND := Lib.hid hneed
 have HIH := Lib.hid IH
 have HP := Lib.hid hp
 have HF := Lib.hid hf
 have hpl := hp.good.len
 obtain ⟨L, hL⟩ : ∃ L, L = p.order.length := ⟨_, rfl⟩
 obtain ⟨N, hN⟩ : ∃ N, N = sd.calls.length := ⟨_, rfl⟩
 rw [← hL] at hP hpl ⊢
 rw [← hN] at hA hl hpl ⊢
 have HLL := Lib.hid hL
 have HNN := Lib.hid hN
 have HA := Lib.hid hA
 have HPO := Lib.hid (hP.bound.mono (S' := fun j => S j ∧ j < w.heap.size) fun j hj _ => hj)
 have HGG := Lib.hid (hg.bound.mono (S' := fun j => S j ∧ j < w.heap.size) fun j hj _ => hj)
 have HWW := Lib.hid hw
 clear hA hg hP hw hp hf hu hneed IH hL hN hc
 obtain ⟨good, hgood⟩ : ∃ good, good = goodE each want := ⟨_, rfl⟩
 rw [← hgood]
 have HGD := Lib.hid hgood
 clear hgood
 obtain ⟨W0, hW⟩ : ∃ W0, W0 = (((w.alloc (.cells #[.int .i64 sd.c.nodes, .int .i64 sd.c.edges, .int .i64 sd.c.props, .int .i64 sd.c.ids, .int .i64 sd.c.eids] 23)).alloc (.cells #[.slice A3 p.g.nodes.length c3, .slice A4 p.g.edges.length c4, .int .i64 p.g.nn, .int .i64 p.g.ne] 31)).alloc (.cells #[.slice A5 want.nodes.length c5, .slice A6 want.edges.length c6, .int .i64 want.nn, .int .i64 want.ne] 31)).alloc (.cells #[.slice none 0 0, .slice none 0 0, .int .i64 0, .int .i64 0] 31) := ⟨_, rfl⟩
 have hb0 : Below w.heap.size w W0 := by rw [hW]; exact (by repeat (first | exact Below.refl _ _ | refine Below.alloc ?_ (by simp; try omega) _))
 have B0 := Lib.hid (show FBx w sd.c p.g want (.slice A3 p.g.nodes.length c3) (.slice A4 p.g.edges.length c4) (.slice A5 want.nodes.length c5) (.slice A6 want.edges.length c6) W0 from by
  obtain ⟨X1, hX1⟩ : ∃ X, X = w.alloc (.cells #[.int .i64 sd.c.nodes, .int .i64 sd.c.edges, .int .i64 sd.c.props, .int .i64 sd.c.ids, .int .i64 sd.c.eids] 23) := ⟨_, rfl⟩
  have z1 : X1.heap.size = w.heap.size + 1 := by rw [hX1]; simp
  have f1 := Box5.made w 23 (.int .i64 sd.c.nodes) (.int .i64 sd.c.edges) (.int .i64 sd.c.props) (.int .i64 sd.c.ids) (.int .i64 sd.c.eids)
  rw [← hX1] at f1
  rw [← hX1] at hW
  obtain ⟨X2, hX2⟩ : ∃ X, X = X1.alloc (.cells #[.slice A3 p.g.nodes.length c3, .slice A4 p.g.edges.length c4, .int .i64 p.g.nn, .int .i64 p.g.ne] 31) := ⟨_, rfl⟩
  have z2 : X2.heap.size = w.heap.size + 1 + 1 := by rw [hX2]; simp [z1]
  have f2 := Box4.made X1 31 (.slice A3 p.g.nodes.length c3) (.slice A4 p.g.edges.length c4) (.int .i64 p.g.nn) (.int .i64 p.g.ne)
  rw [← hX2, z1] at f2
  have b12 : Below X1.heap.size X1 X2 := by rw [hX2]; exact (Below.refl _ X1).alloc (Nat.le_refl _) _
  rw [← hX2] at hW
  obtain ⟨X3, hX3⟩ : ∃ X, X = X2.alloc (.cells #[.slice A5 want.nodes.length c5, .slice A6 want.edges.length c6, .int .i64 want.nn, .int .i64 want.ne] 31) := ⟨_, rfl⟩
  have z3 : X3.heap.size = w.heap.size + 1 + 1 + 1 := by rw [hX3]; simp [z2]
  have f3 := Box4.made X2 31 (.slice A5 want.nodes.length c5) (.slice A6 want.edges.length c6) (.int .i64 want.nn) (.int .i64 want.ne)
  rw [← hX3, z2] at f3
  have b23 : Below X2.heap.size X2 X3 := by rw [hX3]; exact (Below.refl _ X2).alloc (Nat.le_refl _) _
  rw [← hX3] at hW
  have z4 : W0.heap.size = w.heap.size + 4 := by rw [hW]; simp [z3]
  have f4 := Box4.made X3 31 (.slice none 0 0) (.slice none 0 0) (.int .i64 0) (.int .i64 0)
  rw [← hW, z3] at f4
  have b34 : Below X3.heap.size X3 W0 := by rw [hW]; exact (Below.refl _ X3).alloc (Nat.le_refl _) _
  exact ⟨hb0, by omega, ((f1.keep (b12.block _ (by omega))).keep (b23.block _ (by omega))).keep (b34.block _ (by omega)), (f2.keep (b23.block _ (by omega))).keep (b34.block _ (by omega)), f3.keep (b34.block _ (by omega)), f4⟩)
 have HA0 := Lib.hid (HA.out.below hb0)
 have HP0 := Lib.hid (HPO.out.below hb0)
 have HG0 := Lib.hid (HGG.out.below hb0)
 have HW0 := Lib.hid (HWW.out.below hb0)
 clear hb0 HA HPO HGG HWW
 have hlw := B0.out.hl
 unfold CfgD.val
 go_enter Tryz.func29, Tryz.ntmps29
 refine wp_seq_k fun K0 ar0' => ?_
 have ar0 := Lib.hid ar0'
 clear ar0'
 go_wp2
 rw [← hW]
 clear hW
 refine ar0.out _ _ ?_
 clear ar0 K0
 refine wp_seq_k fun K1 ar1' => ?_
 have ar1 := Lib.hid ar1'
 clear ar1'
 obtain ⟨lb, hlb⟩ : ∃ lb, lb = lastB sd p.order := ⟨_, rfl⟩
 have HLB := Lib.hid hlb
 have WHOLE := Lib.hid (whole_is HP.out HND.out)
 have LZ := Lib.hid (left_zero HP.out HND.out)
 have CUT0 : ∀ {u22 u23 u24 u25 u26 u27 u28 u29 u30 u31 u32 u33 u34 u35 u36 u37 : Value}, K1 {tmps := (.agg #[.int .i64 sd.c.nodes, .int .i64 sd.c.edges, .int .i64 sd.c.props, .int .i64 sd.c.ids, .int .i64 sd.c.eids] :: .slice A N cA :: .agg #[.slice A3 p.g.nodes.length c3, .slice A4 p.g.edges.length c4, .int .i64 p.g.nn, .int .i64 p.g.ne] :: .slice AO L cO :: .bool each :: .agg #[.slice A5 want.nodes.length c5, .slice A6 want.edges.length c6, .int .i64 want.nn, .int .i64 want.ne] :: .pointer (some ⟨w.heap.size, 0, none⟩) :: undef :: .pointer (some ⟨w.heap.size + 1, 0, none⟩) :: undef :: undef :: .pointer (some ⟨w.heap.size + 1 + 1, 0, none⟩) :: .slice none 0 0 :: .pointer (some ⟨w.heap.size + 1 + 1 + 1, 0, none⟩) :: .bool false :: .bool lb :: undef :: undef :: undef :: undef :: undef :: undef :: u22 :: u23 :: u24 :: u25 :: u26 :: u27 :: u28 :: u29 :: u30 :: u31 :: u32 :: u33 :: u34 :: u35 :: u36 :: u37 :: undef :: undef :: undef :: undef :: undef :: undef :: undef :: undef :: undef :: undef :: undef :: undef :: undef :: undef :: undef :: undef :: undef :: undef :: undef :: undef :: undef :: undef :: undef :: undef :: undef :: undef :: undef :: undef :: undef :: undef :: undef :: undef :: undef :: undef :: undef :: undef :: undef :: undef :: undef :: undef :: undef :: undef :: undef :: undef :: undef :: undef :: undef :: undef :: undef :: undef :: undef :: undef :: undef :: undef :: undef :: undef :: undef :: undef :: []).toArray, defers := []} W0 := by
  intro u22 u23 u24 u25 u26 u27 u28 u29 u30 u31 u32 u33 u34 u35 u36 u37
  clear hlb
  refine ar1.out _ _ ?_
  clear ar1 K1
  refine wp_seq_k fun K2 ar2' => ?_
  have ar2 := Lib.hid ar2'
  clear ar2'
  have CUT1 : ∀ {u38 u39 u40 u41 u42 u43 u44 u45 u46 u47 u48 u49 u50 u51 : Value} (W : World), Hid (Below W0.heap.size W0 W) → Hid (¬ (wholeB sd p.order p.many = true ∧ good p = true)) → K2 {tmps := (.agg #[.int .i64 sd.c.nodes, .int .i64 sd.c.edges, .int .i64 sd.c.props, .int .i64 sd.c.ids, .int .i64 sd.c.eids] :: .slice A N cA :: .agg #[.slice A3 p.g.nodes.length c3, .slice A4 p.g.edges.length c4, .int .i64 p.g.nn, .int .i64 p.g.ne] :: .slice AO L cO :: .bool each :: .agg #[.slice A5 want.nodes.length c5, .slice A6 want.edges.length c6, .int .i64 want.nn, .int .i64 want.ne] :: .pointer (some ⟨w.heap.size, 0, none⟩) :: undef :: .pointer (some ⟨w.heap.size + 1, 0, none⟩) :: undef :: undef :: .pointer (some ⟨w.heap.size + 1 + 1, 0, none⟩) :: .slice none 0 0 :: .pointer (some ⟨w.heap.size + 1 + 1 + 1, 0, none⟩) :: .bool false :: .bool lb :: undef :: undef :: undef :: undef :: undef :: undef :: u22 :: u23 :: u24 :: u25 :: u26 :: u27 :: u28 :: u29 :: u30 :: u31 :: u32 :: u33 :: u34 :: u35 :: u36 :: u37 :: u38 :: u39 :: u40 :: u41 :: u42 :: u43 :: u44 :: u45 :: u46 :: u47 :: u48 :: u49 :: u50 :: u51 :: .bool false :: undef :: undef :: undef :: undef :: undef :: undef :: undef :: undef :: undef :: undef :: undef :: undef :: undef :: undef :: undef :: undef :: undef :: undef :: undef :: undef :: undef :: undef :: undef :: undef :: undef :: undef :: undef :: undef :: undef :: undef :: undef :: undef :: undef :: undef :: undef :: undef :: undef :: undef :: undef :: undef :: undef :: undef :: undef :: []).toArray, defers := []} W := by
   intro u38 u39 u40 u41 u42 u43 u44 u45 u46 u47 u48 u49 u50 u51 W hbW hnw
   refine ar2.out _ _ ?_
   clear ar2 K2
   have BW := Lib.hid (B0.out.below hbW.out)
   have HAW := Lib.hid (HA0.out.below hbW.out)
   have HPW := Lib.hid (HP0.out.below hbW.out)
   have HGW := Lib.hid (HG0.out.below hbW.out)
   have HWW := Lib.hid (HW0.out.below hbW.out)
   clear B0 HA0 HP0 HG0 HW0 hbW
   go_wp2_with fail
   refine (left_calls W _ _ sd _ _ p.order HAW.out HPW.out HP.out.good.inr (by have := HL.out; omega) (by have := HLL.out; omega)).mono ?_
   rintro e W2 ⟨rfl, hb⟩
   obtain ⟨t, ht⟩ : ∃ t, t = leftI sd p.order := ⟨_, rfl⟩
   rw [← ht]
   have HT := Lib.hid ht
   have B2 := Lib.hid (BW.out.below hb)
   have HA2 := Lib.hid (HAW.out.below hb)
   have HP2 := Lib.hid (HPW.out.below hb)
   have HG2 := Lib.hid (HGW.out.below hb)
   have HW2 := Lib.hid (HWW.out.below hb)
   clear hb ht BW HAW HPW HGW HWW
   have hl2 := B2.out.hl
   by_cases ht0 : t = 0
   ·
    subst ht0
    have RES := Lib.hid (show findF sd good f p = none from by
     by_cases hwh : wholeB sd p.order p.many = true
     ·
      rw [find_whole hwh, if_neg (fun h => hnw.out ⟨hwh, h⟩)]
     ·
      exact find_need hwh (by have := LZ.out; have := HT.out; omega))
    obtain ⟨g0, g1, g2, g3, gf⟩ := B2.out.bg
    obtain ⟨b0, b1, b2, b3, bf⟩ := B2.out.b0
    have l1 : w.heap.size + 1 < W2.heap.size := by omega
    have l3 : w.heap.size + 1 + 1 + 1 < W2.heap.size := by omega
    have nb1 : ¬ w.heap.size + 1 = w.heap.size + 1 + 1 + 1 := by omega
    go_wp2_with fail
    refine wp_region_schedK (fun j => ¬ j = w.heap.size + 1 + 1 + 1) [(0, true), (1, true), (2, false), (3, true)] (by kernel_rfl) (by kernel_rfl) (fun hS => ?_)
    have HKs := Lib.hid hS
    clear hS
    have KDs := Lib.hid (Below.refl W2.heap.size W2).drew
    revert HKs KDs
    generalize W2.drew = Ws
    intro HKs KDs
    repeat (refine sched_take (v := ?_) (by simp only [opT, opS, opZ]; rfl) (Or.inl ⟨by rfl, fun W hW => ?_⟩) HKs.out ?_; rotate_left; (have hc := fun b o hn hb => hW.cell b o hn hb; clear hW; go_simp; with_reducible rfl); simp only [Act.put, putT, putZ, putS])
    have Bs := Lib.hid (B2.out.below KDs.out)
    have hls := Bs.out.hl
    have l3s : w.heap.size + 1 + 1 + 1 < Ws.heap.size := by omega
    clear b0 b1 b2 b3 bf
    obtain ⟨b0, b1, b2, b3, bf⟩ := Bs.out.b0
    refine sched_step (by simp only [opT, opS, opZ]; rfl) ?_
    have HK6 := Lib.hid (show Kept W2 (fun j => ¬ j = w.heap.size + 1 + 1 + 1) (set4 Ws (w.heap.size + 1 + 1 + 1) (.slice A3 p.g.nodes.length c3) (.slice A4 p.g.edges.length c4) (.int .i64 p.g.nn) (.int .i64 p.g.ne)) from HKs.out.set4 (.inr (fun h => absurd rfl h)) _ _ _ _)
    unfold set4 at HK6
    go_wp2_with fail
    refine sched_on HK6.out ?_
    repeat (refine sched_take (v := ?_) (by simp only [opT, opS, opZ]; rfl) (Or.inl ⟨by rfl, fun W hW => ?_⟩) HK6.out ?_; rotate_left; (clear hW; go_simp; with_reducible rfl); simp only [Act.put, putT, putZ, putS])
    refine sched_done ?_
    go_wp2
    refine bodyPost_ret (v := .tuple #[.slice none 0 0, .agg #[.slice A3 p.g.nodes.length c3, .slice A4 p.g.edges.length c4, .int .i64 p.g.nn, .int .i64 p.g.ne], .bool false]) (by simp [results, Tryz.results29, go_sem, b0, b1, b2, b3]; try rfl) rfl ?_
    rw [RES.out]
    exact ⟨_, _, _, _, _, _, _, _, _, _, _, _, rfl, rfl, set4_below Bs.out.K (by omega) _ _ _ _⟩
   have NWH := Lib.hid (show ¬ wholeB sd p.order p.many = true from fun h => ht0 (by
    have h1 := WHOLE.out
    rw [h] at h1
    have h2 := h1.symm
    simp only [Bool.and_eq_true, decide_eq_true_eq] at h2
    rw [HT.out]
    exact h2.2))
   have NM := Lib.hid (show ¬ p.many = sd.need from fun h => ht0 (by have := LZ.out; have := HT.out; omega))
   obtain ⟨t0, ht0'⟩ : ∃ t0, t0 = decide (t = 0) := ⟨_, rfl⟩
   have htf : t0 = false := by rw [ht0']; simpa using ht0
   have hte : (t == 0) = false := by simpa using ht0
   have htd : decide (t = 0) = false := by simpa using ht0
   go_wp2
   clear ht0 ht0' htf hte htd
   go_loopw [62] (fun i wr => ∃ k : Nat, k ≤ N ∧ i = .int .i64 (k : Int) ∧ Hid (NoneTo sd good f p k) ∧ Hid (Below W2.heap.size W2 wr)) (fun i _ => N - (intOf i).toNat)
   case atStart => exact ⟨0, Nat.zero_le _, rfl, fun j hj => absurd hj (by omega), Below.refl _ _⟩
   case round =>
    obtain ⟨k, hk, rfl, hno, hb⟩ := hrel
    obtain ⟨wi, rfl⟩ : ∃ wi, wi = wr := ⟨wr, rfl⟩
    have B3 := Lib.hid (B2.out.below hb.out)
    have HA3 := Lib.hid (HA2.out.below hb.out)
    have HP3 := Lib.hid (HP2.out.below hb.out)
    have HG3 := Lib.hid (HG2.out.below hb.out)
    have HW3 := Lib.hid (HW2.out.below hb.out)
    have hl3 := B3.out.hl
    obtain ⟨q0, q1, q2, q3, q4, qf⟩ := B3.out.cf
    obtain ⟨g0, g1, g2, g3, gf⟩ := B3.out.bg
    have l0 : w.heap.size < wi.heap.size := by omega
    have l1 : w.heap.size + 1 < wi.heap.size := by omega
    by_cases hlt : k < N
    case neg =>
     obtain rfl : k = N := by omega
     have RES := Lib.hid (find_loop NWH.out NM.out (by have := hno.out; rw [HNN.out] at this; exact this))
     obtain ⟨b0, b1, b2, b3, bf⟩ := B3.out.b0
     have l3 : w.heap.size + 1 + 1 + 1 < wi.heap.size := by omega
     have nb1 : ¬ w.heap.size + 1 = w.heap.size + 1 + 1 + 1 := by omega
     clear hno hb B2 HA2 HP2 HG2 HW2 q0 q1 q2 q3 q4 qf
     go_wp2_with fail
     refine wp_region_schedK (fun j => ¬ j = w.heap.size + 1 + 1 + 1) [(0, true), (1, true), (2, false), (3, true)] (by kernel_rfl) (by kernel_rfl) (fun hS => ?_)
     have HKs := Lib.hid hS
     clear hS
     have KDs := Lib.hid (Below.refl wi.heap.size wi).drew
     revert HKs KDs
     generalize wi.drew = Ws
     intro HKs KDs
     repeat (refine sched_take (v := ?_) (by simp only [opT, opS, opZ]; rfl) (Or.inl ⟨by rfl, fun W hW => ?_⟩) HKs.out ?_; rotate_left; (have hc := fun b o hn hb => hW.cell b o hn hb; clear hW; go_simp; with_reducible rfl); simp only [Act.put, putT, putZ, putS])
     have Bs := Lib.hid (B3.out.below KDs.out)
     have hls := Bs.out.hl
     have l3s : w.heap.size + 1 + 1 + 1 < Ws.heap.size := by omega
     clear b0 b1 b2 b3 bf
     obtain ⟨b0, b1, b2, b3, bf⟩ := Bs.out.b0
     refine sched_step (by simp only [opT, opS, opZ]; rfl) ?_
     have HK6 := Lib.hid (show Kept wi (fun j => ¬ j = w.heap.size + 1 + 1 + 1) (set4 Ws (w.heap.size + 1 + 1 + 1) (.slice A3 p.g.nodes.length c3) (.slice A4 p.g.edges.length c4) (.int .i64 p.g.nn) (.int .i64 p.g.ne)) from HKs.out.set4 (.inr (fun h => absurd rfl h)) _ _ _ _)
     unfold set4 at HK6
     go_wp2_with fail
     refine sched_on HK6.out ?_
     repeat (refine sched_take (v := ?_) (by simp only [opT, opS, opZ]; rfl) (Or.inl ⟨by rfl, fun W hW => ?_⟩) HK6.out ?_; rotate_left; (clear hW; go_simp; with_reducible rfl); simp only [Act.put, putT, putZ, putS])
     refine sched_done ?_
     go_wp2
     refine bodyPost_ret (v := .tuple #[.slice none 0 0, .agg #[.slice A3 p.g.nodes.length c3, .slice A4 p.g.edges.length c4, .int .i64 p.g.nn, .int .i64 p.g.ne], .bool false]) (by simp [results, Tryz.results29, go_sem, b0, b1, b2, b3]; try rfl) rfl ?_
     rw [RES.out]
     exact ⟨_, _, _, _, _, _, _, _, _, _, _, _, rfl, rfl, set4_below Bs.out.K (by omega) _ _ _ _⟩
    have hll : (k : Int) < (N : Int) := by omega
    go_wp2_with fail
    refine (step_calls wi _ _ _ sd p k _ _ _ _ HA3.out HG3.out HP3.out HU.out HP.out.good.inr (HP.out.good.rdy HC.out HL.out) (by have := HNN.out; omega) (by have := HL.out; omega) (by have := HLL.out; omega)).mono ?_
    rintro e ws ⟨A8, n8, c8, A9, n9, c9, gn, ge, rfl, hst, hbs⟩
    obtain ⟨r, hr⟩ : ∃ r, r = nextF sd p (k : Int) := ⟨_, rfl⟩
    rw [← hr] at hst ⊢
    have HRR := Lib.hid hr
    obtain ⟨q, ok⟩ := r
    simp only at hst ⊢
    have HST := Lib.hid hst
    have KS := thn hb hbs
    have ss := hbs.size
    have swi := hb.out.size
    clear hr hst hbs q0 q1 q2 q3 q4 qf g0 g1 g2 g3 gf B3 HA3 HP3 HG3 HW3
    cases ok with
    | false =>
     have NO := Lib.hid (none_no (f := f) (good := good) hno.out (by rw [← HRR.out]))
     go_wp2
     go_roundw
     case rel => exact ⟨k + 1, by omega, by first | (go_num; done) | (go_num; omega), NO.out, KS.out.alloc KS.out.size _⟩
     case measure => simp [intOf]; omega
    | true =>
     obtain ⟨rfl, rfl, hg8⟩ := HST.out rfl
     have HG8 := Lib.hid (hg8.bound.mono (S' := fun j => wi.heap.size ≤ j ∧ j < ws.heap.size) fun j hj _ => hj)
     have hn1 : (nextF sd p (k : Int)).2 = true := by rw [← HRR.out]
     have hq1 : (nextF sd p (k : Int)).1 = q := by rw [← HRR.out]
     have HQ := Lib.hid (show OrdP sd q from hq1 ▸ HP.out.next HL.out hn1)
     have hqo : q.order = p.order ++ [(k : Int)] := by rw [← hq1]; exact next_order hn1
     have HQO := Lib.hid hqo
     have hql := HQ.out.good.len
     have hf1 := HF.out
     have hlo : q.order.length = p.order.length + 1 := by rw [hqo]; simp
     obtain ⟨f', rfl⟩ : ∃ f', f = f' + 1 := ⟨f - 1, by omega⟩
     have hf' : sd.calls.length ≤ f' + q.order.length := by omega
     have IHf := Lib.hid (HIH.out f' rfl)
     have HN1 := Lib.hid hn1
     have HQ1 := Lib.hid hq1
     have HF' := Lib.hid hf'
     clear hg8 hn1 hq1 hqo hql hf1 hlo hf' HST HIH HF HRR
     go_wp2_with fail
     rename_i Kr ar
     have AR := Lib.hid ar
     clear ar
     obtain ⟨X, hX⟩ : ∃ X, X = ws.alloc (.cells #[.slice A8 n8 c8, .slice A9 n9 c9, .int .i64 q.g.nn, .int .i64 q.g.ne] 31) := ⟨_, rfl⟩
     have hbX : Below ws.heap.size ws X := by rw [hX]; exact (Below.refl _ ws).alloc (Nat.le_refl _) _
     have sX : ws.heap.size < X.heap.size := by rw [hX]; simp
     have BQ := Lib.hid (show Box4 X ws.heap.size _ _ _ _ from by rw [hX]; exact Box4.made ws 31 (.slice A8 n8 c8) (.slice A9 n9 c9) (.int .i64 q.g.nn) (.int .i64 q.g.ne))
     rw [← hX]
     have KX := thn KS hbX
     have HGX := Lib.hid (HG8.out.below hbX)
     have BX := Lib.hid (B2.out.below KX.out)
     have HAX := Lib.hid (HA2.out.below KX.out)
     have HPX := Lib.hid (HP2.out.below KX.out)
     have HWX := Lib.hid (HW2.out.below KX.out)
     clear hX hbX HG8 KS hb
     have CALL := Lib.hid (show ∀ (Z : World) (T : Nat → Prop) (B2 : Option Addr) (d2 : Nat), Below X.heap.size X Z → (∀ j, wi.heap.size ≤ j → j < ws.heap.size → T j) → Row tInt Z T (.slice B2 (L + 1) d2) (p.order ++ [(k : Int)]) → Calls Tryz.prog 29 #[sd.c.val, .slice A N cA, .agg #[.slice A8 n8 c8, .slice A9 n9 c9, .int .i64 q.g.nn, .int .i64 q.g.ne], .slice B2 (L + 1) d2, .bool each, .agg #[.slice A5 want.nodes.length c5, .slice A6 want.edges.length c6, .int .i64 want.nn, .int .i64 want.ne]] Z (FindPost Z T (findF sd good f' q)) from fun Z T B2 d2 hK hT hR => by
      rw [HGD.out]
      exact IHf.out Z T q _ _ _ _ _ _ (HAX.out.below hK) ((HGX.out.below hK).mono fun j hj _ => hT j hj.1 hj.2) (by rw [HQO.out]; exact hR) (HWX.out.below hK) HQ.out HF'.out)
     have CUT2 : ∀ {u12 u14 u16 u17 u18 u63 u64 u65 u66 u67 u68 u69 u70 u71 u72 u73 u74 u75 u76 u77 u78 u79 u80 u81 u82 u83 u84 u85 u86 u87 u88 u89 u90 u91 u92 u93 u94 : Value} (bT : Nat) (A10 : Option Addr) (n10 c10 : Nat) (A11 : Option Addr) (n11 c11 : Nat) (A12 : Option Addr) (n12 c12 : Nat) (gn ge : Int) (b : Bool) (Y : World), Below X.heap.size X Y → Box4 Y bT (.slice A11 n11 c11) (.slice A12 n12 c12) (.int .i64 gn) (.int .i64 ge) → FRes Y (fun j => wi.heap.size ≤ j ∧ ¬ j = bT) (findF sd good f' q) A10 n10 c10 A11 n11 c11 A12 n12 c12 gn ge b → X.heap.size ≤ bT → bT < Y.heap.size → Kr {tmps := (.agg #[.int .i64 sd.c.nodes, .int .i64 sd.c.edges, .int .i64 sd.c.props, .int .i64 sd.c.ids, .int .i64 sd.c.eids] :: .slice A N cA :: .agg #[.slice A3 p.g.nodes.length c3, .slice A4 p.g.edges.length c4, .int .i64 p.g.nn, .int .i64 p.g.ne] :: .slice AO L cO :: .bool each :: .agg #[.slice A5 want.nodes.length c5, .slice A6 want.edges.length c6, .int .i64 want.nn, .int .i64 want.ne] :: .pointer (some ⟨w.heap.size, 0, none⟩) :: undef :: .pointer (some ⟨w.heap.size + 1, 0, none⟩) :: undef :: undef :: .pointer (some ⟨w.heap.size + 1 + 1, 0, none⟩) :: u12 :: .pointer (some ⟨w.heap.size + 1 + 1 + 1, 0, none⟩) :: u14 :: .bool lb :: u16 :: u17 :: u18 :: .slice A10 n10 c10 :: .pointer (some ⟨bT, 0, none⟩) :: .bool b :: u22 :: u23 :: u24 :: u25 :: u26 :: u27 :: u28 :: u29 :: u30 :: u31 :: u32 :: u33 :: u34 :: u35 :: u36 :: u37 :: u38 :: u39 :: u40 :: u41 :: u42 :: u43 :: u44 :: u45 :: u46 :: u47 :: u48 :: u49 :: u50 :: u51 :: .bool false :: undef :: undef :: .slice A N cA :: .slice AO L cO :: .int .i64 t :: .bool false :: undef :: .slice A N cA :: .int .i64 (N : Int) :: .int .i64 (k : Int) :: u63 :: u64 :: u65 :: u66 :: u67 :: u68 :: u69 :: u70 :: u71 :: u72 :: u73 :: u74 :: u75 :: u76 :: u77 :: u78 :: u79 :: u80 :: u81 :: u82 :: u83 :: u84 :: u85 :: u86 :: u87 :: u88 :: u89 :: u90 :: u91 :: u92 :: u93 :: u94 :: undef :: []).toArray, defers := []} Y := by
      intro u12 u14 u16 u17 u18 u63 u64 u65 u66 u67 u68 u69 u70 u71 u72 u73 u74 u75 u76 u77 u78 u79 u80 u81 u82 u83 u84 u85 u86 u87 u88 u89 u90 u91 u92 u93 u94 bT A10 n10 c10 A11 n11 c11 A12 n12 c12 gn ge b Y hky hgy hfy vbT lbY
      refine AR.out _ _ ?_
      clear AR Kr
      have KY := Lib.hid hky
      have GY := Lib.hid hgy
      have FY := Lib.hid hfy
      clear hky hgy hfy
      obtain ⟨res, hres⟩ : ∃ res, res = findF sd good f' q := ⟨_, rfl⟩
      rw [← hres] at FY
      have HRES := Lib.hid hres
      have BY := Lib.hid (BX.out.below KY.out)
      have sYY := KY.out.size
      clear hres
      cases res with
      | none =>
       have hbf : b = false := FY.out
       subst hbf
       have NO := Lib.hid (none_yes (good := good) hno.out HN1.out (by rw [HQ1.out]; exact HRES.out.symm))
       go_wp2
       go_roundw
       case rel => exact ⟨k + 1, by omega, by first | (go_num; done) | (go_num; omega), NO.out, KX.out.trans (KY.out.mono KX.out.size)⟩
       case measure => simp [intOf]; omega
      | some y =>
       obtain ⟨hbt, hgn, hge, hfo, hfg⟩ := FY.out
       subst hbt hgn hge
       have RES := Lib.hid (find_hit NWH.out NM.out (by have := HNN.out; omega) hno.out (hit_yes HN1.out (by rw [HQ1.out]; exact HRES.out.symm)))
       have FO := Lib.hid (hfo.mono (S' := fun j => wi.heap.size ≤ j) fun j hj _ => hj.1)
       have FG := Lib.hid (hfg.mono (S' := fun j => wi.heap.size ≤ j) fun j hj _ => hj.1)
       obtain ⟨h0, h1, h2, h3, hf⟩ := GY.out
       obtain ⟨b0, b1, b2, b3, bf⟩ := BY.out.b0
       have hlY := BY.out.hl
       have l3 : w.heap.size + 1 + 1 + 1 < Y.heap.size := by omega
       have lT : bT < Y.heap.size := by omega
       have nb1 : ¬ bT = w.heap.size + 1 + 1 + 1 := by omega
       clear hfo hfg FY
       go_wp2_with fail
       refine wp_region_schedK (fun j => ¬ j = w.heap.size + 1 + 1 + 1) [(0, true), (1, true), (2, true), (3, false), (4, true)] (by kernel_rfl) (by kernel_rfl) (fun hS => ?_)
       have HKs := Lib.hid hS
       clear hS
       have KDs := Lib.hid (Below.refl Y.heap.size Y).drew
       revert HKs KDs
       generalize Y.drew = Ws
       intro HKs KDs
       repeat (refine sched_take (v := ?_) (by simp only [opT, opS, opZ]; rfl) (Or.inl ⟨by rfl, fun W hW => ?_⟩) HKs.out ?_; rotate_left; (have hc := fun b o hn hb => hW.cell b o hn hb; clear hW; go_simp; with_reducible rfl); simp only [Act.put, putT, putZ, putS])
       have Bs := Lib.hid (BY.out.below KDs.out)
       have hls := Bs.out.hl
       have l3s : w.heap.size + 1 + 1 + 1 < Ws.heap.size := by omega
       clear b0 b1 b2 b3 bf
       obtain ⟨b0, b1, b2, b3, bf⟩ := Bs.out.b0
       refine sched_step (by simp only [opT, opS, opZ]; rfl) ?_
       have HK6 := Lib.hid (show Kept Y (fun j => ¬ j = w.heap.size + 1 + 1 + 1) (set4 Ws (w.heap.size + 1 + 1 + 1) (.slice A11 n11 c11) (.slice A12 n12 c12) (.int .i64 y.g.nn) (.int .i64 y.g.ne)) from HKs.out.set4 (.inr (fun h => absurd rfl h)) _ _ _ _)
       unfold set4 at HK6
       go_wp2_with fail
       refine sched_on HK6.out ?_
       repeat (refine sched_take (v := ?_) (by simp only [opT, opS, opZ]; rfl) (Or.inl ⟨by rfl, fun W hW => ?_⟩) HK6.out ?_; rotate_left; (clear hW; go_simp; with_reducible rfl); simp only [Act.put, putT, putZ, putS])
       refine sched_done ?_
       go_wp2
       refine bodyPost_ret (v := .tuple #[.slice A10 n10 c10, .agg #[.slice A11 n11 c11, .slice A12 n12 c12, .int .i64 y.g.nn, .int .i64 y.g.ne], .bool true]) (by simp [results, Tryz.results29, go_sem, b0, b1, b2, b3]; try rfl) rfl ?_
       rw [RES.out]
       have hs4 : ∀ j, ¬ j = w.heap.size + 1 + 1 + 1 → (set4 Ws (w.heap.size + 1 + 1 + 1) (.slice A11 n11 c11) (.slice A12 n12 c12) (.int .i64 y.g.nn) (.int .i64 y.g.ne)).heap[j]? = Ws.heap[j]? := fun j hj => set4_heap _ _ _ _ _ _ _ hj
       exact ⟨_, _, _, _, _, _, _, _, _, _, _, _, rfl, ⟨rfl, rfl, rfl, ((FO.out.below KDs.out).move fun j hj _ => hs4 j (by (try simp only at hj); omega)).mono fun j hj _ => .inr (by (try simp only at hj); omega), ((FG.out.below KDs.out).move fun j hj _ => hs4 j (by (try simp only at hj); omega)).mono fun j hj _ => .inr (by (try simp only at hj); omega)⟩, set4_below Bs.out.K (by omega) _ _ _ _⟩
     have HCUT2 := @Lib.hid _ @CUT2
     clear CUT2 AR
     refine wp_region_tr3 (fun _ => True) (.take 0 (.take 1 (.take 2 (.take 3 (.take 5 (.take 8 (.take 9 (.three 4 (.two 6 (.two 7 (.two 10 (.take 11 (.take 12 (.take 13 (.take 14 (.step 15 (.take 16 (.step 17 (.take 18 .nil)))))))) 15 (.step 10 (.take 11 (.take 12 (.take 13 (.take 14 (.take 16 (.step 17 (.take 18 .nil))))))))) 15 (.step 7 (.step 10 (.take 11 (.take 12 (.take 13 (.take 14 (.take 16 (.step 17 (.take 18 .nil)))))))))) 15 (.step 6 (.step 7 (.step 10 (.take 11 (.take 12 (.take 13 (.take 14 (.take 16 (.step 17 (.take 18 .nil))))))))))) 6 (.two 4 (.two 7 (.two 10 (.take 11 (.take 12 (.take 13 (.take 14 (.step 15 (.take 16 (.step 17 (.take 18 .nil)))))))) 15 (.step 10 (.take 11 (.take 12 (.take 13 (.take 14 (.take 16 (.step 17 (.take 18 .nil))))))))) 15 (.step 7 (.step 10 (.take 11 (.take 12 (.take 13 (.take 14 (.take 16 (.step 17 (.take 18 .nil)))))))))) 15 (.step 4 (.step 7 (.step 10 (.take 11 (.take 12 (.take 13 (.take 14 (.take 16 (.step 17 (.take 18 .nil))))))))))) 15 (.two 4 (.step 6 (.step 7 (.step 10 (.take 11 (.take 12 (.take 13 (.take 14 (.take 16 (.step 17 (.take 18 .nil)))))))))) 6 (.step 4 (.step 7 (.step 10 (.take 11 (.take 12 (.take 13 (.take 14 (.take 16 (.step 17 (.take 18 .nil))))))))))))))))))) (by kernel_rfl) (by kernel_rfl) (fun hS => ?_)
     have HK0 := Lib.hid hS
     clear hS
     have KD := Lib.hid (Below.refl X.heap.size X).drew
     revert HK0 KD
     generalize X.drew = Z0
     intro HK0 KD
     obtain ⟨q0, q1, q2, q3, q4, qf⟩ := BX.out.cf
     obtain ⟨w0, w1, w2, w3, wf⟩ := BX.out.bw
     obtain ⟨g0, g1, g2, g3, gf⟩ := BQ.out
     have lx := BX.out.hl
     have l0X : w.heap.size < X.heap.size := by omega
     have l2X : w.heap.size + 1 + 1 < X.heap.size := by omega
     repeat (refine tr3_take (v := ?_) (by simp only [opT, opS, opZ]; rfl) (Or.inl ⟨by rfl, fun W hW => ?_⟩) HK0.out ?_; rotate_left; (have hc := fun b o hb => hW.cell b o trivial hb; clear hW; go_simp; with_reducible rfl); simp only [Act.put, putT, putZ, putS])
     have KE0 := Lib.hid KD.out
     clear KD q0 q1 q2 q3 q4 qf w0 w1 w2 w3 wf g0 g1 g2 g3 gf
     refine tr3_three (by simp only [opT, opS, opZ]; rfl) ?_ (by simp only [opT, opS, opZ]; rfl) (Hid.out ?_) (by simp only [opT, opS, opZ]; rfl) (Hid.out ?_)
     ·
      skip
      refine (wpList_own_append (ty := tInt) (W := Z0) (S := fun _ => True) (Sy := fun j => S j ∧ j < w.heap.size) (v := .slice none 0 0) (xs := []) (ys := p.order) rfl _ _ 25 3 8 _ rfl elemInts rfl (Own.nil _ _ _ _) AO L cO rfl (HPX.out.below KE0.out) HLL.out ?bb ?bl trivial (fun _ _ _ => ⟨trivial, by simp [Value.ownBlock]⟩) ?_)
      case bb => have := HLL.out; simp; omega
      case bl => have := HLL.out; unfold maxLen; simp; omega
      intro v1 Z1 hown hg hor
      have hb : Below Z0.heap.size Z0 Z1 := (Below.refl _ Z0).grown hg (Nat.le_refl _) (fun k hk => by simp [Value.ownBlock] at hk)
      have hvo : ∀ j, v1.ownBlock = some j → j = Z0.heap.size := fun j hj => by
       rcases hor with h | h
       ·
        rw [h] at hj; simp [Value.ownBlock] at hj
       ·
        rw [h] at hj; injection hj with hj; exact hj.symm
      try rw [List.nil_append] at hown
      obtain ⟨B1, d1, rfl⟩ := hown.slice
      rw [← HLL.out] at hown hvo ⊢
      have OV1 := Lib.hid (hown.clsFlat (S' := fun j => X.heap.size ≤ j) fun j hj => by have := hvo j hj; have := KE0.out.size; omega)
      have s1 := hb.size
      have KE1 := thn KE0 hb
      clear hown hg hor hb hvo
      refine tr_on (kp KE1.out) ?_
      refine tr_two (by simp only [opT, opS, opZ]; rfl) ?_ (by simp only [opT, opS, opZ]; rfl) (Hid.out ?_)
      ·
       skip
       obtain ⟨Z2, hV⟩ : ∃ V, V = Z1.alloc (.cells #[.int .i64 (k : Int)] 3) := ⟨_, rfl⟩
       have hb : Below Z1.heap.size Z1 Z2 := by rw [hV]; exact (Below.refl _ Z1).alloc (Nat.le_refl _) _
       have s2 : Z1.heap.size < Z2.heap.size := by rw [hV]; simp
       have HB2 := Lib.hid (show Row tInt Z2 (fun j => j = Z1.heap.size) (.slice (some ⟨Z1.heap.size, 0, none⟩) 1 1) [(k : Int)] from by rw [hV]; exact Row.box tInt Z1 (cs := [.int .i64 (k : Int)]) 3 _ rfl rfl)
       have KE2 := thn KE1 hb
       have OV2 := Lib.hid (OV1.out.below hb)
       go_wp2_with fail
       rw [← hV]
       clear hV hb
       obtain ⟨bB, hbB⟩ : ∃ b, b = Z1.heap.size := ⟨_, rfl⟩
       rw [← hbB] at HB2
       simp only [← hbB]
       have vbB : X.heap.size ≤ bB := by have := KE1.out.size; omega
       have lbB2 : bB < Z2.heap.size := by omega
       have nvB : ∀ j, (Value.slice B1 L d1).ownBlock = some j → j ≠ bB := fun j hj => by have := OV1.out.lt j hj; omega
       clear hbB
       refine tr_on (kp KE2.out) ?_
       refine tr_two (by simp only [opT, opS, opZ]; rfl) ?_ (by simp only [opT, opS, opZ]; rfl) (Hid.out ?_)
       ·
        skip
        refine (wpList_own_append (ty := tInt) (W := Z2) (S := fun j => X.heap.size ≤ j) (Sy := fun j => j = bB) (v := .slice B1 L d1) (xs := p.order) (ys := [(k : Int)]) rfl _ _ 25 3 8 _ rfl elemInts rfl OV2.out (some ⟨bB, 0, none⟩) 1 1 rfl HB2.out rfl ?bb ?bl (by have := KE2.out.size; (try simp only); omega) (fun j hj _ => ⟨by (try simp only at hj ⊢); omega, fun e => nvB j e hj⟩) ?_)
        case bb => have := HLL.out; simp; omega
        case bl => have := HLL.out; unfold maxLen; simp; omega
        intro v2 Z3 hown hg hor
        have hrow : ∀ j, (Value.slice B1 L d1).ownBlock = some j → X.heap.size ≤ j := OV2.out.1
        have s3 : Z2.heap.size ≤ Z3.heap.size := hg.size
        have KE3 := Lib.hid (show Below X.heap.size X Z3 from below_of_grown KE2.out hg (fun j hj => hrow j hj))
        obtain ⟨B2, d2, rfl⟩ := hown.slice
        have hle : (p.order ++ [(k : Int)]).length = L + 1 := by rw [HLL.out]; simp
        rw [hle] at hown ⊢
        have OW3 := Lib.hid hown
        clear hown hg hor hrow hle nvB HB2 OV2
        refine tr_on (kp KE3.out) ?_
        refine tr_two (by simp only [opT, opS, opZ]; rfl) ?_ (by simp only [opT, opS, opZ]; rfl) (Hid.out ?_)
        ·
         skip
         go_wp2_with fail
         refine (CALL.out Z3 (fun j => wi.heap.size ≤ j) B2 d2 KE3.out (fun j h1 h2 => h1) (OW3.out.clsFlat (S' := fun j => wi.heap.size ≤ j) fun j hj => by have h1 := OW3.out.1 j hj; (try simp only at h1 ⊢); omega).row).mono ?_
         rintro e Z4 ⟨A10, n10, c10, A11, n11, c11, A12, n12, c12, gn, ge, b, rfl, hfr, hb⟩
         have s4 := hb.size
         have FR4 := Lib.hid (hfr.mono (S' := fun j => wi.heap.size ≤ j) fun j hj hl => by have := KE3.out.size; (try simp only at hj ⊢); omega)
         have KE4 := thn KE3 hb
         clear hb hfr OW3
         go_wp2_with fail
         refine tr_on (kp KE4.out) ?_
         repeat (refine tr_take (v := ?_) (by simp only [opT, opS, opZ]; rfl) (Or.inl ⟨by rfl, fun W hW => ?_⟩) (kp KE4.out) ?_; rotate_left; (clear hW; go_simp; with_reducible rfl); simp only [Act.put, putT, putZ, putS])
         refine tr_step (by simp only [opT, opS, opZ]; rfl) ?_
         obtain ⟨Z5, hV⟩ : ∃ V, V = Z4.alloc (.cells #[.slice none 0 0, .slice none 0 0, .int .i64 0, .int .i64 0] 31) := ⟨_, rfl⟩
         have hb : Below Z4.heap.size Z4 Z5 := by rw [hV]; exact (Below.refl _ Z4).alloc (Nat.le_refl _) _
         have s5 : Z4.heap.size < Z5.heap.size := by rw [hV]; simp
         have GT5 := Lib.hid (show Box4 Z5 Z4.heap.size _ _ _ _ from by rw [hV]; exact Box4.made Z4 31 (.slice none 0 0) (.slice none 0 0) (.int .i64 0) (.int .i64 0))
         have KE5 := thn KE4 hb
         have KB5 := Lib.hid hb
         go_wp2_with fail
         rw [← hV]
         clear hV hb
         obtain ⟨bT, hbT⟩ : ∃ b, b = Z4.heap.size := ⟨_, rfl⟩
         rw [← hbT] at GT5
         simp only [← hbT]
         have vbT : X.heap.size ≤ bT := by have := KE4.out.size; omega
         have lbT5 : bT < Z5.heap.size := by omega
         have FE := Lib.hid ((FR4.out.mono (S' := fun j => wi.heap.size ≤ j ∧ ¬ j = bT) fun j hj hl => by (try simp only at hj ⊢); omega).below (show Below Z4.heap.size Z4 Z5 from KB5.out))
         clear hbT
         refine tr_on (kp KE5.out) ?_
         repeat (refine tr_take (v := ?_) (by simp only [opT, opS, opZ]; rfl) (Or.inl ⟨by rfl, fun W hW => ?_⟩) (kp KE5.out) ?_; rotate_left; (clear hW; go_simp; with_reducible rfl); simp only [Act.put, putT, putZ, putS])
         obtain ⟨h0, h1, h2, h3, hf⟩ := GT5.out
         refine tr_step (by simp only [opT, opS, opZ]; rfl) ?_
         obtain ⟨Y, hY⟩ : ∃ Y, Y = set4 Z5 bT (.slice A11 n11 c11) (.slice A12 n12 c12) (.int .i64 gn) (.int .i64 ge) := ⟨_, rfl⟩
         obtain ⟨KY, GY, FY, lY⟩ := leafY KE5.out vbT lbT5 GT5.out FE.out (.slice A11 n11 c11) (.slice A12 n12 c12) (.int .i64 gn) (.int .i64 ge)
         rw [← hY] at KY GY FY lY
         unfold set4 at hY
         go_wp2_with fail
         rw [← hY]
         clear hY h0 h1 h2 h3 hf FE
         refine tr_on (kp KY.out) ?_
         repeat (refine tr_take (v := ?_) (by simp only [opT, opS, opZ]; rfl) (Or.inl ⟨by rfl, fun W hW => ?_⟩) (kp KY.out) ?_; rotate_left; (clear hW; go_simp; with_reducible rfl); simp only [Act.put, putT, putZ, putS])
         refine tr_done ?_
         exact HCUT2.out bT A10 n10 c10 A11 n11 c11 A12 n12 c12 gn ge b Y KY.out GY.out FY.out vbT lY
        ·
         refine Lib.hid ?_
         obtain ⟨Z4, hV⟩ : ∃ V, V = Z3.alloc (.cells #[.slice none 0 0, .slice none 0 0, .int .i64 0, .int .i64 0] 31) := ⟨_, rfl⟩
         have hb : Below Z3.heap.size Z3 Z4 := by rw [hV]; exact (Below.refl _ Z3).alloc (Nat.le_refl _) _
         have s4 : Z3.heap.size < Z4.heap.size := by rw [hV]; simp
         have GT4 := Lib.hid (show Box4 Z4 Z3.heap.size _ _ _ _ from by rw [hV]; exact Box4.made Z3 31 (.slice none 0 0) (.slice none 0 0) (.int .i64 0) (.int .i64 0))
         have KE4 := thn KE3 hb
         have OW4 := Lib.hid (OW3.out.below hb)
         go_wp2_with fail
         rw [← hV]
         clear hV hb
         obtain ⟨bT, hbT⟩ : ∃ b, b = Z3.heap.size := ⟨_, rfl⟩
         rw [← hbT] at GT4
         simp only [← hbT]
         have vbT : X.heap.size ≤ bT := by have := KE3.out.size; omega
         have lbT4 : bT < Z4.heap.size := by omega
         have n2T : ∀ j, (Value.slice B2 (L + 1) d2).ownBlock = some j → j ≠ bT := fun j hj => by have := OW3.out.lt j hj; omega
         clear hbT
         refine tr_on (kp KE4.out) ?_
         refine tr_step (by simp only [opT, opS, opZ]; rfl) ?_
         go_wp2_with fail
         refine (CALL.out Z4 (fun j => wi.heap.size ≤ j ∧ ¬ j = bT) B2 d2 KE4.out (fun j h1 h2 => ⟨h1, by omega⟩) (OW4.out.clsFlat (S' := fun j => wi.heap.size ≤ j ∧ ¬ j = bT) fun j hj => by have h1 := OW4.out.1 j hj; have h2 := n2T j hj; (try simp only at h1 ⊢); omega).row).mono ?_
         rintro e Z5 ⟨A10, n10, c10, A11, n11, c11, A12, n12, c12, gn, ge, b, rfl, hfr, hb⟩
         have s5 := hb.size
         have FE := Lib.hid (hfr.mono (S' := fun j => wi.heap.size ≤ j ∧ ¬ j = bT) fun j hj hl => by (try simp only at hj ⊢); omega)
         have KE5 := thn KE4 hb
         have GT5 := Lib.hid (GT4.out.keep (hb.block _ lbT4))
         have lbT5 : bT < Z5.heap.size := by omega
         clear hb hfr OW4
         go_wp2_with fail
         refine tr_on (kp KE5.out) ?_
         repeat (refine tr_take (v := ?_) (by simp only [opT, opS, opZ]; rfl) (Or.inl ⟨by rfl, fun W hW => ?_⟩) (kp KE5.out) ?_; rotate_left; (clear hW; go_simp; with_reducible rfl); simp only [Act.put, putT, putZ, putS])
         obtain ⟨h0, h1, h2, h3, hf⟩ := GT5.out
         refine tr_step (by simp only [opT, opS, opZ]; rfl) ?_
         obtain ⟨Y, hY⟩ : ∃ Y, Y = set4 Z5 bT (.slice A11 n11 c11) (.slice A12 n12 c12) (.int .i64 gn) (.int .i64 ge) := ⟨_, rfl⟩
         obtain ⟨KY, GY, FY, lY⟩ := leafY KE5.out vbT lbT5 GT5.out FE.out (.slice A11 n11 c11) (.slice A12 n12 c12) (.int .i64 gn) (.int .i64 ge)
         rw [← hY] at KY GY FY lY
         unfold set4 at hY
         go_wp2_with fail
         rw [← hY]
         clear hY h0 h1 h2 h3 hf FE
         refine tr_on (kp KY.out) ?_
         repeat (refine tr_take (v := ?_) (by simp only [opT, opS, opZ]; rfl) (Or.inl ⟨by rfl, fun W hW => ?_⟩) (kp KY.out) ?_; rotate_left; (clear hW; go_simp; with_reducible rfl); simp only [Act.put, putT, putZ, putS])
         refine tr_done ?_
         exact HCUT2.out bT A10 n10 c10 A11 n11 c11 A12 n12 c12 gn ge b Y KY.out GY.out FY.out vbT lY
       ·
        refine Lib.hid ?_
        obtain ⟨Z3, hV⟩ : ∃ V, V = Z2.alloc (.cells #[.slice none 0 0, .slice none 0 0, .int .i64 0, .int .i64 0] 31) := ⟨_, rfl⟩
        have hb : Below Z2.heap.size Z2 Z3 := by rw [hV]; exact (Below.refl _ Z2).alloc (Nat.le_refl _) _
        have s3 : Z2.heap.size < Z3.heap.size := by rw [hV]; simp
        have GT3 := Lib.hid (show Box4 Z3 Z2.heap.size _ _ _ _ from by rw [hV]; exact Box4.made Z2 31 (.slice none 0 0) (.slice none 0 0) (.int .i64 0) (.int .i64 0))
        have KE3 := thn KE2 hb
        have OV3 := Lib.hid (OV2.out.below hb)
        have HB3 := Lib.hid (HB2.out.below hb)
        have lbB3 : bB < Z3.heap.size := by omega
        go_wp2_with fail
        rw [← hV]
        clear hV hb
        obtain ⟨bT, hbT⟩ : ∃ b, b = Z2.heap.size := ⟨_, rfl⟩
        rw [← hbT] at GT3
        simp only [← hbT]
        have vbT : X.heap.size ≤ bT := by have := KE2.out.size; omega
        have lbT3 : bT < Z3.heap.size := by omega
        have nvT : ∀ j, (Value.slice B1 L d1).ownBlock = some j → j ≠ bT := fun j hj => by have := OV2.out.lt j hj; omega
        clear hbT
        refine tr_on (kp KE3.out) ?_
        refine tr_step (by simp only [opT, opS, opZ]; rfl) ?_
        refine (wpList_own_append (ty := tInt) (W := Z3) (S := fun j => X.heap.size ≤ j) (Sy := fun j => j = bB) (v := .slice B1 L d1) (xs := p.order) (ys := [(k : Int)]) rfl _ _ 25 3 8 _ rfl elemInts rfl OV3.out (some ⟨bB, 0, none⟩) 1 1 rfl HB3.out rfl ?bb ?bl (by have := KE3.out.size; (try simp only); omega) (fun j hj _ => ⟨by (try simp only at hj ⊢); omega, fun e => nvB j e hj⟩) ?_)
        case bb => have := HLL.out; simp; omega
        case bl => have := HLL.out; unfold maxLen; simp; omega
        intro v2 Z4 hown hg hor
        have hrow : ∀ j, (Value.slice B1 L d1).ownBlock = some j → X.heap.size ≤ j := OV3.out.1
        have s4 : Z3.heap.size ≤ Z4.heap.size := hg.size
        have KE4 := Lib.hid (show Below X.heap.size X Z4 from below_of_grown KE3.out hg (fun j hj => hrow j hj))
        have GT4 := Lib.hid (GT3.out.keep (hg.block bT lbT3 (fun e => nvT bT e.symm rfl)))
        have lbT4 : bT < Z4.heap.size := by omega
        have n2T0 : ∀ j, v2.ownBlock = some j → j ≠ bT := fun j hj => by
         rcases hor with h | h
         ·
          rw [h] at hj; exact nvT j hj
         ·
          rw [h] at hj; injection hj with hj; omega
        obtain ⟨B2, d2, rfl⟩ := hown.slice
        have hle : (p.order ++ [(k : Int)]).length = L + 1 := by rw [HLL.out]; simp
        rw [hle] at hown n2T0 ⊢
        have n2T := n2T0
        have OW4 := Lib.hid hown
        clear hown hg hor hrow hle nvB HB3 OV3 nvT n2T0
        refine tr_on (kp KE4.out) ?_
        refine tr_step (by simp only [opT, opS, opZ]; rfl) ?_
        go_wp2_with fail
        refine (CALL.out Z4 (fun j => wi.heap.size ≤ j ∧ ¬ j = bT) B2 d2 KE4.out (fun j h1 h2 => ⟨h1, by omega⟩) (OW4.out.clsFlat (S' := fun j => wi.heap.size ≤ j ∧ ¬ j = bT) fun j hj => by have h1 := OW4.out.1 j hj; have h2 := n2T j hj; (try simp only at h1 ⊢); omega).row).mono ?_
        rintro e Z5 ⟨A10, n10, c10, A11, n11, c11, A12, n12, c12, gn, ge, b, rfl, hfr, hb⟩
        have s5 := hb.size
        have FE := Lib.hid (hfr.mono (S' := fun j => wi.heap.size ≤ j ∧ ¬ j = bT) fun j hj hl => by (try simp only at hj ⊢); omega)
        have KE5 := thn KE4 hb
        have GT5 := Lib.hid (GT4.out.keep (hb.block _ lbT4))
        have lbT5 : bT < Z5.heap.size := by omega
        clear hb hfr OW4
        go_wp2_with fail
        refine tr_on (kp KE5.out) ?_
        repeat (refine tr_take (v := ?_) (by simp only [opT, opS, opZ]; rfl) (Or.inl ⟨by rfl, fun W hW => ?_⟩) (kp KE5.out) ?_; rotate_left; (clear hW; go_simp; with_reducible rfl); simp only [Act.put, putT, putZ, putS])
        obtain ⟨h0, h1, h2, h3, hf⟩ := GT5.out
        refine tr_step (by simp only [opT, opS, opZ]; rfl) ?_
        obtain ⟨Y, hY⟩ : ∃ Y, Y = set4 Z5 bT (.slice A11 n11 c11) (.slice A12 n12 c12) (.int .i64 gn) (.int .i64 ge) := ⟨_, rfl⟩
        obtain ⟨KY, GY, FY, lY⟩ := leafY KE5.out vbT lbT5 GT5.out FE.out (.slice A11 n11 c11) (.slice A12 n12 c12) (.int .i64 gn) (.int .i64 ge)
        rw [← hY] at KY GY FY lY
        unfold set4 at hY
        go_wp2_with fail
        rw [← hY]
        clear hY h0 h1 h2 h3 hf FE
        refine tr_on (kp KY.out) ?_
        repeat (refine tr_take (v := ?_) (by simp only [opT, opS, opZ]; rfl) (Or.inl ⟨by rfl, fun W hW => ?_⟩) (kp KY.out) ?_; rotate_left; (clear hW; go_simp; with_reducible rfl); simp only [Act.put, putT, putZ, putS])
        refine tr_done ?_
        exact HCUT2.out bT A10 n10 c10 A11 n11 c11 A12 n12 c12 gn ge b Y KY.out GY.out FY.out vbT lY
      ·
       refine Lib.hid ?_
       obtain ⟨Z2, hV⟩ : ∃ V, V = Z1.alloc (.cells #[.slice none 0 0, .slice none 0 0, .int .i64 0, .int .i64 0] 31) := ⟨_, rfl⟩
       have hb : Below Z1.heap.size Z1 Z2 := by rw [hV]; exact (Below.refl _ Z1).alloc (Nat.le_refl _) _
       have s2 : Z1.heap.size < Z2.heap.size := by rw [hV]; simp
       have GT2 := Lib.hid (show Box4 Z2 Z1.heap.size _ _ _ _ from by rw [hV]; exact Box4.made Z1 31 (.slice none 0 0) (.slice none 0 0) (.int .i64 0) (.int .i64 0))
       have KE2 := thn KE1 hb
       have OV2 := Lib.hid (OV1.out.below hb)
       go_wp2_with fail
       rw [← hV]
       clear hV hb
       obtain ⟨bT, hbT⟩ : ∃ b, b = Z1.heap.size := ⟨_, rfl⟩
       rw [← hbT] at GT2
       simp only [← hbT]
       have vbT : X.heap.size ≤ bT := by have := KE1.out.size; omega
       have lbT2 : bT < Z2.heap.size := by omega
       have nvT : ∀ j, (Value.slice B1 L d1).ownBlock = some j → j ≠ bT := fun j hj => by have := OV1.out.lt j hj; omega
       clear hbT
       refine tr_on (kp KE2.out) ?_
       refine tr_step (by simp only [opT, opS, opZ]; rfl) ?_
       obtain ⟨Z3, hV⟩ : ∃ V, V = Z2.alloc (.cells #[.int .i64 (k : Int)] 3) := ⟨_, rfl⟩
       have hb : Below Z2.heap.size Z2 Z3 := by rw [hV]; exact (Below.refl _ Z2).alloc (Nat.le_refl _) _
       have s3 : Z2.heap.size < Z3.heap.size := by rw [hV]; simp
       have HB3 := Lib.hid (show Row tInt Z3 (fun j => j = Z2.heap.size) (.slice (some ⟨Z2.heap.size, 0, none⟩) 1 1) [(k : Int)] from by rw [hV]; exact Row.box tInt Z2 (cs := [.int .i64 (k : Int)]) 3 _ rfl rfl)
       have KE3 := thn KE2 hb
       have OV3 := Lib.hid (OV2.out.below hb)
       have GT3 := Lib.hid (GT2.out.keep (hb.block _ lbT2))
       have lbT3 : bT < Z3.heap.size := by omega
       go_wp2_with fail
       rw [← hV]
       clear hV hb
       obtain ⟨bB, hbB⟩ : ∃ b, b = Z2.heap.size := ⟨_, rfl⟩
       rw [← hbB] at HB3
       simp only [← hbB]
       have vbB : X.heap.size ≤ bB := by have := KE2.out.size; omega
       have lbB3 : bB < Z3.heap.size := by omega
       have nvB : ∀ j, (Value.slice B1 L d1).ownBlock = some j → j ≠ bB := fun j hj => by have := OV2.out.lt j hj; omega
       clear hbB
       refine tr_on (kp KE3.out) ?_
       refine tr_step (by simp only [opT, opS, opZ]; rfl) ?_
       refine (wpList_own_append (ty := tInt) (W := Z3) (S := fun j => X.heap.size ≤ j) (Sy := fun j => j = bB) (v := .slice B1 L d1) (xs := p.order) (ys := [(k : Int)]) rfl _ _ 25 3 8 _ rfl elemInts rfl OV3.out (some ⟨bB, 0, none⟩) 1 1 rfl HB3.out rfl ?bb ?bl (by have := KE3.out.size; (try simp only); omega) (fun j hj _ => ⟨by (try simp only at hj ⊢); omega, fun e => nvB j e hj⟩) ?_)
       case bb => have := HLL.out; simp; omega
       case bl => have := HLL.out; unfold maxLen; simp; omega
       intro v2 Z4 hown hg hor
       have hrow : ∀ j, (Value.slice B1 L d1).ownBlock = some j → X.heap.size ≤ j := OV3.out.1
       have s4 : Z3.heap.size ≤ Z4.heap.size := hg.size
       have KE4 := Lib.hid (show Below X.heap.size X Z4 from below_of_grown KE3.out hg (fun j hj => hrow j hj))
       have GT4 := Lib.hid (GT3.out.keep (hg.block bT lbT3 (fun e => nvT bT e.symm rfl)))
       have lbT4 : bT < Z4.heap.size := by omega
       have n2T0 : ∀ j, v2.ownBlock = some j → j ≠ bT := fun j hj => by
        rcases hor with h | h
        ·
         rw [h] at hj; exact nvT j hj
        ·
         rw [h] at hj; injection hj with hj; omega
       obtain ⟨B2, d2, rfl⟩ := hown.slice
       have hle : (p.order ++ [(k : Int)]).length = L + 1 := by rw [HLL.out]; simp
       rw [hle] at hown n2T0 ⊢
       have n2T := n2T0
       have OW4 := Lib.hid hown
       clear hown hg hor hrow hle nvB HB3 OV3 nvT n2T0
       refine tr_on (kp KE4.out) ?_
       refine tr_step (by simp only [opT, opS, opZ]; rfl) ?_
       go_wp2_with fail
       refine (CALL.out Z4 (fun j => wi.heap.size ≤ j ∧ ¬ j = bT) B2 d2 KE4.out (fun j h1 h2 => ⟨h1, by omega⟩) (OW4.out.clsFlat (S' := fun j => wi.heap.size ≤ j ∧ ¬ j = bT) fun j hj => by have h1 := OW4.out.1 j hj; have h2 := n2T j hj; (try simp only at h1 ⊢); omega).row).mono ?_
       rintro e Z5 ⟨A10, n10, c10, A11, n11, c11, A12, n12, c12, gn, ge, b, rfl, hfr, hb⟩
       have s5 := hb.size
       have FE := Lib.hid (hfr.mono (S' := fun j => wi.heap.size ≤ j ∧ ¬ j = bT) fun j hj hl => by (try simp only at hj ⊢); omega)
       have KE5 := thn KE4 hb
       have GT5 := Lib.hid (GT4.out.keep (hb.block _ lbT4))
       have lbT5 : bT < Z5.heap.size := by omega
       clear hb hfr OW4
       go_wp2_with fail
       refine tr_on (kp KE5.out) ?_
       repeat (refine tr_take (v := ?_) (by simp only [opT, opS, opZ]; rfl) (Or.inl ⟨by rfl, fun W hW => ?_⟩) (kp KE5.out) ?_; rotate_left; (clear hW; go_simp; with_reducible rfl); simp only [Act.put, putT, putZ, putS])
       obtain ⟨h0, h1, h2, h3, hf⟩ := GT5.out
       refine tr_step (by simp only [opT, opS, opZ]; rfl) ?_
       obtain ⟨Y, hY⟩ : ∃ Y, Y = set4 Z5 bT (.slice A11 n11 c11) (.slice A12 n12 c12) (.int .i64 gn) (.int .i64 ge) := ⟨_, rfl⟩
       obtain ⟨KY, GY, FY, lY⟩ := leafY KE5.out vbT lbT5 GT5.out FE.out (.slice A11 n11 c11) (.slice A12 n12 c12) (.int .i64 gn) (.int .i64 ge)
       rw [← hY] at KY GY FY lY
       unfold set4 at hY
       go_wp2_with fail
       rw [← hY]
       clear hY h0 h1 h2 h3 hf FE
       refine tr_on (kp KY.out) ?_
       repeat (refine tr_take (v := ?_) (by simp only [opT, opS, opZ]; rfl) (Or.inl ⟨by rfl, fun W hW => ?_⟩) (kp KY.out) ?_; rotate_left; (clear hW; go_simp; with_reducible rfl); simp only [Act.put, putT, putZ, putS])
       refine tr_done ?_
       exact HCUT2.out bT A10 n10 c10 A11 n11 c11 A12 n12 c12 gn ge b Y KY.out GY.out FY.out vbT lY
     ·
      refine Lib.hid ?_
      obtain ⟨Z1, hV⟩ : ∃ V, V = Z0.alloc (.cells #[.int .i64 (k : Int)] 3) := ⟨_, rfl⟩
      have hb : Below Z0.heap.size Z0 Z1 := by rw [hV]; exact (Below.refl _ Z0).alloc (Nat.le_refl _) _
      have s1 : Z0.heap.size < Z1.heap.size := by rw [hV]; simp
      have HB1 := Lib.hid (show Row tInt Z1 (fun j => j = Z0.heap.size) (.slice (some ⟨Z0.heap.size, 0, none⟩) 1 1) [(k : Int)] from by rw [hV]; exact Row.box tInt Z0 (cs := [.int .i64 (k : Int)]) 3 _ rfl rfl)
      have KE1 := thn KE0 hb
      go_wp2_with fail
      rw [← hV]
      clear hV hb
      obtain ⟨bB, hbB⟩ : ∃ b, b = Z0.heap.size := ⟨_, rfl⟩
      rw [← hbB] at HB1
      simp only [← hbB]
      have vbB : X.heap.size ≤ bB := by have := KE0.out.size; omega
      have lbB1 : bB < Z1.heap.size := by omega
      clear hbB
      refine tr_on (kp KE1.out) ?_
      refine tr_two (by simp only [opT, opS, opZ]; rfl) ?_ (by simp only [opT, opS, opZ]; rfl) (Hid.out ?_)
      ·
       skip
       refine (wpList_own_append (ty := tInt) (W := Z1) (S := fun _ => True) (Sy := fun j => S j ∧ j < w.heap.size) (v := .slice none 0 0) (xs := []) (ys := p.order) rfl _ _ 25 3 8 _ rfl elemInts rfl (Own.nil _ _ _ _) AO L cO rfl (HPX.out.below KE1.out) HLL.out ?bb ?bl trivial (fun _ _ _ => ⟨trivial, by simp [Value.ownBlock]⟩) ?_)
       case bb => have := HLL.out; simp; omega
       case bl => have := HLL.out; unfold maxLen; simp; omega
       intro v1 Z2 hown hg hor
       have hb : Below Z1.heap.size Z1 Z2 := (Below.refl _ Z1).grown hg (Nat.le_refl _) (fun k hk => by simp [Value.ownBlock] at hk)
       have hvo : ∀ j, v1.ownBlock = some j → j = Z1.heap.size := fun j hj => by
        rcases hor with h | h
        ·
         rw [h] at hj; simp [Value.ownBlock] at hj
        ·
         rw [h] at hj; injection hj with hj; exact hj.symm
       try rw [List.nil_append] at hown
       obtain ⟨B1, d1, rfl⟩ := hown.slice
       rw [← HLL.out] at hown hvo ⊢
       have OV2 := Lib.hid (hown.clsFlat (S' := fun j => X.heap.size ≤ j) fun j hj => by have := hvo j hj; have := KE1.out.size; omega)
       have s2 := hb.size
       have nvB : ∀ j, (Value.slice B1 L d1).ownBlock = some j → j ≠ bB := fun j hj => by have := hvo j hj; omega
       have KE2 := thn KE1 hb
       have HB2 := Lib.hid (HB1.out.below hb)
       have lbB2 : bB < Z2.heap.size := by omega
       clear hown hg hor hb hvo
       refine tr_on (kp KE2.out) ?_
       refine tr_two (by simp only [opT, opS, opZ]; rfl) ?_ (by simp only [opT, opS, opZ]; rfl) (Hid.out ?_)
       ·
        skip
        refine (wpList_own_append (ty := tInt) (W := Z2) (S := fun j => X.heap.size ≤ j) (Sy := fun j => j = bB) (v := .slice B1 L d1) (xs := p.order) (ys := [(k : Int)]) rfl _ _ 25 3 8 _ rfl elemInts rfl OV2.out (some ⟨bB, 0, none⟩) 1 1 rfl HB2.out rfl ?bb ?bl (by have := KE2.out.size; (try simp only); omega) (fun j hj _ => ⟨by (try simp only at hj ⊢); omega, fun e => nvB j e hj⟩) ?_)
        case bb => have := HLL.out; simp; omega
        case bl => have := HLL.out; unfold maxLen; simp; omega
        intro v2 Z3 hown hg hor
        have hrow : ∀ j, (Value.slice B1 L d1).ownBlock = some j → X.heap.size ≤ j := OV2.out.1
        have s3 : Z2.heap.size ≤ Z3.heap.size := hg.size
        have KE3 := Lib.hid (show Below X.heap.size X Z3 from below_of_grown KE2.out hg (fun j hj => hrow j hj))
        obtain ⟨B2, d2, rfl⟩ := hown.slice
        have hle : (p.order ++ [(k : Int)]).length = L + 1 := by rw [HLL.out]; simp
        rw [hle] at hown ⊢
        have OW3 := Lib.hid hown
        clear hown hg hor hrow hle nvB HB2 OV2
        refine tr_on (kp KE3.out) ?_
        refine tr_two (by simp only [opT, opS, opZ]; rfl) ?_ (by simp only [opT, opS, opZ]; rfl) (Hid.out ?_)
        ·
         skip
         go_wp2_with fail
         refine (CALL.out Z3 (fun j => wi.heap.size ≤ j) B2 d2 KE3.out (fun j h1 h2 => h1) (OW3.out.clsFlat (S' := fun j => wi.heap.size ≤ j) fun j hj => by have h1 := OW3.out.1 j hj; (try simp only at h1 ⊢); omega).row).mono ?_
         rintro e Z4 ⟨A10, n10, c10, A11, n11, c11, A12, n12, c12, gn, ge, b, rfl, hfr, hb⟩
         have s4 := hb.size
         have FR4 := Lib.hid (hfr.mono (S' := fun j => wi.heap.size ≤ j) fun j hj hl => by have := KE3.out.size; (try simp only at hj ⊢); omega)
         have KE4 := thn KE3 hb
         clear hb hfr OW3
         go_wp2_with fail
         refine tr_on (kp KE4.out) ?_
         repeat (refine tr_take (v := ?_) (by simp only [opT, opS, opZ]; rfl) (Or.inl ⟨by rfl, fun W hW => ?_⟩) (kp KE4.out) ?_; rotate_left; (clear hW; go_simp; with_reducible rfl); simp only [Act.put, putT, putZ, putS])
         refine tr_step (by simp only [opT, opS, opZ]; rfl) ?_
         obtain ⟨Z5, hV⟩ : ∃ V, V = Z4.alloc (.cells #[.slice none 0 0, .slice none 0 0, .int .i64 0, .int .i64 0] 31) := ⟨_, rfl⟩
         have hb : Below Z4.heap.size Z4 Z5 := by rw [hV]; exact (Below.refl _ Z4).alloc (Nat.le_refl _) _
         have s5 : Z4.heap.size < Z5.heap.size := by rw [hV]; simp
         have GT5 := Lib.hid (show Box4 Z5 Z4.heap.size _ _ _ _ from by rw [hV]; exact Box4.made Z4 31 (.slice none 0 0) (.slice none 0 0) (.int .i64 0) (.int .i64 0))
         have KE5 := thn KE4 hb
         have KB5 := Lib.hid hb
         go_wp2_with fail
         rw [← hV]
         clear hV hb
         obtain ⟨bT, hbT⟩ : ∃ b, b = Z4.heap.size := ⟨_, rfl⟩
         rw [← hbT] at GT5
         simp only [← hbT]
         have vbT : X.heap.size ≤ bT := by have := KE4.out.size; omega
         have lbT5 : bT < Z5.heap.size := by omega
         have FE := Lib.hid ((FR4.out.mono (S' := fun j => wi.heap.size ≤ j ∧ ¬ j = bT) fun j hj hl => by (try simp only at hj ⊢); omega).below (show Below Z4.heap.size Z4 Z5 from KB5.out))
         clear hbT
         refine tr_on (kp KE5.out) ?_
         repeat (refine tr_take (v := ?_) (by simp only [opT, opS, opZ]; rfl) (Or.inl ⟨by rfl, fun W hW => ?_⟩) (kp KE5.out) ?_; rotate_left; (clear hW; go_simp; with_reducible rfl); simp only [Act.put, putT, putZ, putS])
         obtain ⟨h0, h1, h2, h3, hf⟩ := GT5.out
         refine tr_step (by simp only [opT, opS, opZ]; rfl) ?_
         obtain ⟨Y, hY⟩ : ∃ Y, Y = set4 Z5 bT (.slice A11 n11 c11) (.slice A12 n12 c12) (.int .i64 gn) (.int .i64 ge) := ⟨_, rfl⟩
         obtain ⟨KY, GY, FY, lY⟩ := leafY KE5.out vbT lbT5 GT5.out FE.out (.slice A11 n11 c11) (.slice A12 n12 c12) (.int .i64 gn) (.int .i64 ge)
         rw [← hY] at KY GY FY lY
         unfold set4 at hY
         go_wp2_with fail
         rw [← hY]
         clear hY h0 h1 h2 h3 hf FE
         refine tr_on (kp KY.out) ?_
         repeat (refine tr_take (v := ?_) (by simp only [opT, opS, opZ]; rfl) (Or.inl ⟨by rfl, fun W hW => ?_⟩) (kp KY.out) ?_; rotate_left; (clear hW; go_simp; with_reducible rfl); simp only [Act.put, putT, putZ, putS])
         refine tr_done ?_
         exact HCUT2.out bT A10 n10 c10 A11 n11 c11 A12 n12 c12 gn ge b Y KY.out GY.out FY.out vbT lY
        ·
         refine Lib.hid ?_
         obtain ⟨Z4, hV⟩ : ∃ V, V = Z3.alloc (.cells #[.slice none 0 0, .slice none 0 0, .int .i64 0, .int .i64 0] 31) := ⟨_, rfl⟩
         have hb : Below Z3.heap.size Z3 Z4 := by rw [hV]; exact (Below.refl _ Z3).alloc (Nat.le_refl _) _
         have s4 : Z3.heap.size < Z4.heap.size := by rw [hV]; simp
         have GT4 := Lib.hid (show Box4 Z4 Z3.heap.size _ _ _ _ from by rw [hV]; exact Box4.made Z3 31 (.slice none 0 0) (.slice none 0 0) (.int .i64 0) (.int .i64 0))
         have KE4 := thn KE3 hb
         have OW4 := Lib.hid (OW3.out.below hb)
         go_wp2_with fail
         rw [← hV]
         clear hV hb
         obtain ⟨bT, hbT⟩ : ∃ b, b = Z3.heap.size := ⟨_, rfl⟩
         rw [← hbT] at GT4
         simp only [← hbT]
         have vbT : X.heap.size ≤ bT := by have := KE3.out.size; omega
         have lbT4 : bT < Z4.heap.size := by omega
         have n2T : ∀ j, (Value.slice B2 (L + 1) d2).ownBlock = some j → j ≠ bT := fun j hj => by have := OW3.out.lt j hj; omega
         clear hbT
         refine tr_on (kp KE4.out) ?_
         refine tr_step (by simp only [opT, opS, opZ]; rfl) ?_
         go_wp2_with fail
         refine (CALL.out Z4 (fun j => wi.heap.size ≤ j ∧ ¬ j = bT) B2 d2 KE4.out (fun j h1 h2 => ⟨h1, by omega⟩) (OW4.out.clsFlat (S' := fun j => wi.heap.size ≤ j ∧ ¬ j = bT) fun j hj => by have h1 := OW4.out.1 j hj; have h2 := n2T j hj; (try simp only at h1 ⊢); omega).row).mono ?_
         rintro e Z5 ⟨A10, n10, c10, A11, n11, c11, A12, n12, c12, gn, ge, b, rfl, hfr, hb⟩
         have s5 := hb.size
         have FE := Lib.hid (hfr.mono (S' := fun j => wi.heap.size ≤ j ∧ ¬ j = bT) fun j hj hl => by (try simp only at hj ⊢); omega)
         have KE5 := thn KE4 hb
         have GT5 := Lib.hid (GT4.out.keep (hb.block _ lbT4))
         have lbT5 : bT < Z5.heap.size := by omega
         clear hb hfr OW4
         go_wp2_with fail
         refine tr_on (kp KE5.out) ?_
         repeat (refine tr_take (v := ?_) (by simp only [opT, opS, opZ]; rfl) (Or.inl ⟨by rfl, fun W hW => ?_⟩) (kp KE5.out) ?_; rotate_left; (clear hW; go_simp; with_reducible rfl); simp only [Act.put, putT, putZ, putS])
         obtain ⟨h0, h1, h2, h3, hf⟩ := GT5.out
         refine tr_step (by simp only [opT, opS, opZ]; rfl) ?_
         obtain ⟨Y, hY⟩ : ∃ Y, Y = set4 Z5 bT (.slice A11 n11 c11) (.slice A12 n12 c12) (.int .i64 gn) (.int .i64 ge) := ⟨_, rfl⟩
         obtain ⟨KY, GY, FY, lY⟩ := leafY KE5.out vbT lbT5 GT5.out FE.out (.slice A11 n11 c11) (.slice A12 n12 c12) (.int .i64 gn) (.int .i64 ge)
         rw [← hY] at KY GY FY lY
         unfold set4 at hY
         go_wp2_with fail
         rw [← hY]
         clear hY h0 h1 h2 h3 hf FE
         refine tr_on (kp KY.out) ?_
         repeat (refine tr_take (v := ?_) (by simp only [opT, opS, opZ]; rfl) (Or.inl ⟨by rfl, fun W hW => ?_⟩) (kp KY.out) ?_; rotate_left; (clear hW; go_simp; with_reducible rfl); simp only [Act.put, putT, putZ, putS])
         refine tr_done ?_
         exact HCUT2.out bT A10 n10 c10 A11 n11 c11 A12 n12 c12 gn ge b Y KY.out GY.out FY.out vbT lY
       ·
        refine Lib.hid ?_
        obtain ⟨Z3, hV⟩ : ∃ V, V = Z2.alloc (.cells #[.slice none 0 0, .slice none 0 0, .int .i64 0, .int .i64 0] 31) := ⟨_, rfl⟩
        have hb : Below Z2.heap.size Z2 Z3 := by rw [hV]; exact (Below.refl _ Z2).alloc (Nat.le_refl _) _
        have s3 : Z2.heap.size < Z3.heap.size := by rw [hV]; simp
        have GT3 := Lib.hid (show Box4 Z3 Z2.heap.size _ _ _ _ from by rw [hV]; exact Box4.made Z2 31 (.slice none 0 0) (.slice none 0 0) (.int .i64 0) (.int .i64 0))
        have KE3 := thn KE2 hb
        have OV3 := Lib.hid (OV2.out.below hb)
        have HB3 := Lib.hid (HB2.out.below hb)
        have lbB3 : bB < Z3.heap.size := by omega
        go_wp2_with fail
        rw [← hV]
        clear hV hb
        obtain ⟨bT, hbT⟩ : ∃ b, b = Z2.heap.size := ⟨_, rfl⟩
        rw [← hbT] at GT3
        simp only [← hbT]
        have vbT : X.heap.size ≤ bT := by have := KE2.out.size; omega
        have lbT3 : bT < Z3.heap.size := by omega
        have nvT : ∀ j, (Value.slice B1 L d1).ownBlock = some j → j ≠ bT := fun j hj => by have := OV2.out.lt j hj; omega
        clear hbT
        refine tr_on (kp KE3.out) ?_
        refine tr_step (by simp only [opT, opS, opZ]; rfl) ?_
        refine (wpList_own_append (ty := tInt) (W := Z3) (S := fun j => X.heap.size ≤ j) (Sy := fun j => j = bB) (v := .slice B1 L d1) (xs := p.order) (ys := [(k : Int)]) rfl _ _ 25 3 8 _ rfl elemInts rfl OV3.out (some ⟨bB, 0, none⟩) 1 1 rfl HB3.out rfl ?bb ?bl (by have := KE3.out.size; (try simp only); omega) (fun j hj _ => ⟨by (try simp only at hj ⊢); omega, fun e => nvB j e hj⟩) ?_)
        case bb => have := HLL.out; simp; omega
        case bl => have := HLL.out; unfold maxLen; simp; omega
        intro v2 Z4 hown hg hor
        have hrow : ∀ j, (Value.slice B1 L d1).ownBlock = some j → X.heap.size ≤ j := OV3.out.1
        have s4 : Z3.heap.size ≤ Z4.heap.size := hg.size
        have KE4 := Lib.hid (show Below X.heap.size X Z4 from below_of_grown KE3.out hg (fun j hj => hrow j hj))
        have GT4 := Lib.hid (GT3.out.keep (hg.block bT lbT3 (fun e => nvT bT e.symm rfl)))
        have lbT4 : bT < Z4.heap.size := by omega
        have n2T0 : ∀ j, v2.ownBlock = some j → j ≠ bT := fun j hj => by
         rcases hor with h | h
         ·
          rw [h] at hj; exact nvT j hj
         ·
          rw [h] at hj; injection hj with hj; omega
        obtain ⟨B2, d2, rfl⟩ := hown.slice
        have hle : (p.order ++ [(k : Int)]).length = L + 1 := by rw [HLL.out]; simp
        rw [hle] at hown n2T0 ⊢
        have n2T := n2T0
        have OW4 := Lib.hid hown
        clear hown hg hor hrow hle nvB HB3 OV3 nvT n2T0
        refine tr_on (kp KE4.out) ?_
        refine tr_step (by simp only [opT, opS, opZ]; rfl) ?_
        go_wp2_with fail
        refine (CALL.out Z4 (fun j => wi.heap.size ≤ j ∧ ¬ j = bT) B2 d2 KE4.out (fun j h1 h2 => ⟨h1, by omega⟩) (OW4.out.clsFlat (S' := fun j => wi.heap.size ≤ j ∧ ¬ j = bT) fun j hj => by have h1 := OW4.out.1 j hj; have h2 := n2T j hj; (try simp only at h1 ⊢); omega).row).mono ?_
        rintro e Z5 ⟨A10, n10, c10, A11, n11, c11, A12, n12, c12, gn, ge, b, rfl, hfr, hb⟩
        have s5 := hb.size
        have FE := Lib.hid (hfr.mono (S' := fun j => wi.heap.size ≤ j ∧ ¬ j = bT) fun j hj hl => by (try simp only at hj ⊢); omega)
        have KE5 := thn KE4 hb
        have GT5 := Lib.hid (GT4.out.keep (hb.block _ lbT4))
        have lbT5 : bT < Z5.heap.size := by omega
        clear hb hfr OW4
        go_wp2_with fail
        refine tr_on (kp KE5.out) ?_
        repeat (refine tr_take (v := ?_) (by simp only [opT, opS, opZ]; rfl) (Or.inl ⟨by rfl, fun W hW => ?_⟩) (kp KE5.out) ?_; rotate_left; (clear hW; go_simp; with_reducible rfl); simp only [Act.put, putT, putZ, putS])
        obtain ⟨h0, h1, h2, h3, hf⟩ := GT5.out
        refine tr_step (by simp only [opT, opS, opZ]; rfl) ?_
        obtain ⟨Y, hY⟩ : ∃ Y, Y = set4 Z5 bT (.slice A11 n11 c11) (.slice A12 n12 c12) (.int .i64 gn) (.int .i64 ge) := ⟨_, rfl⟩
        obtain ⟨KY, GY, FY, lY⟩ := leafY KE5.out vbT lbT5 GT5.out FE.out (.slice A11 n11 c11) (.slice A12 n12 c12) (.int .i64 gn) (.int .i64 ge)
        rw [← hY] at KY GY FY lY
        unfold set4 at hY
        go_wp2_with fail
        rw [← hY]
        clear hY h0 h1 h2 h3 hf FE
        refine tr_on (kp KY.out) ?_
        repeat (refine tr_take (v := ?_) (by simp only [opT, opS, opZ]; rfl) (Or.inl ⟨by rfl, fun W hW => ?_⟩) (kp KY.out) ?_; rotate_left; (clear hW; go_simp; with_reducible rfl); simp only [Act.put, putT, putZ, putS])
        refine tr_done ?_
        exact HCUT2.out bT A10 n10 c10 A11 n11 c11 A12 n12 c12 gn ge b Y KY.out GY.out FY.out vbT lY
      ·
       refine Lib.hid ?_
       obtain ⟨Z2, hV⟩ : ∃ V, V = Z1.alloc (.cells #[.slice none 0 0, .slice none 0 0, .int .i64 0, .int .i64 0] 31) := ⟨_, rfl⟩
       have hb : Below Z1.heap.size Z1 Z2 := by rw [hV]; exact (Below.refl _ Z1).alloc (Nat.le_refl _) _
       have s2 : Z1.heap.size < Z2.heap.size := by rw [hV]; simp
       have GT2 := Lib.hid (show Box4 Z2 Z1.heap.size _ _ _ _ from by rw [hV]; exact Box4.made Z1 31 (.slice none 0 0) (.slice none 0 0) (.int .i64 0) (.int .i64 0))
       have KE2 := thn KE1 hb
       have HB2 := Lib.hid (HB1.out.below hb)
       have lbB2 : bB < Z2.heap.size := by omega
       go_wp2_with fail
       rw [← hV]
       clear hV hb
       obtain ⟨bT, hbT⟩ : ∃ b, b = Z1.heap.size := ⟨_, rfl⟩
       rw [← hbT] at GT2
       simp only [← hbT]
       have vbT : X.heap.size ≤ bT := by have := KE1.out.size; omega
       have lbT2 : bT < Z2.heap.size := by omega
       clear hbT
       refine tr_on (kp KE2.out) ?_
       refine tr_step (by simp only [opT, opS, opZ]; rfl) ?_
       refine (wpList_own_append (ty := tInt) (W := Z2) (S := fun _ => True) (Sy := fun j => S j ∧ j < w.heap.size) (v := .slice none 0 0) (xs := []) (ys := p.order) rfl _ _ 25 3 8 _ rfl elemInts rfl (Own.nil _ _ _ _) AO L cO rfl (HPX.out.below KE2.out) HLL.out ?bb ?bl trivial (fun _ _ _ => ⟨trivial, by simp [Value.ownBlock]⟩) ?_)
       case bb => have := HLL.out; simp; omega
       case bl => have := HLL.out; unfold maxLen; simp; omega
       intro v1 Z3 hown hg hor
       have hb : Below Z2.heap.size Z2 Z3 := (Below.refl _ Z2).grown hg (Nat.le_refl _) (fun k hk => by simp [Value.ownBlock] at hk)
       have hvo : ∀ j, v1.ownBlock = some j → j = Z2.heap.size := fun j hj => by
        rcases hor with h | h
        ·
         rw [h] at hj; simp [Value.ownBlock] at hj
        ·
         rw [h] at hj; injection hj with hj; exact hj.symm
       try rw [List.nil_append] at hown
       obtain ⟨B1, d1, rfl⟩ := hown.slice
       rw [← HLL.out] at hown hvo ⊢
       have OV3 := Lib.hid (hown.clsFlat (S' := fun j => X.heap.size ≤ j) fun j hj => by have := hvo j hj; have := KE2.out.size; omega)
       have s3 := hb.size
       have nvB : ∀ j, (Value.slice B1 L d1).ownBlock = some j → j ≠ bB := fun j hj => by have := hvo j hj; omega
       have nvT : ∀ j, (Value.slice B1 L d1).ownBlock = some j → j ≠ bT := fun j hj => by have := hvo j hj; omega
       have KE3 := thn KE2 hb
       have HB3 := Lib.hid (HB2.out.below hb)
       have lbB3 : bB < Z3.heap.size := by omega
       have GT3 := Lib.hid (GT2.out.keep (hb.block _ lbT2))
       have lbT3 : bT < Z3.heap.size := by omega
       clear hown hg hor hb hvo
       refine tr_on (kp KE3.out) ?_
       refine tr_step (by simp only [opT, opS, opZ]; rfl) ?_
       refine (wpList_own_append (ty := tInt) (W := Z3) (S := fun j => X.heap.size ≤ j) (Sy := fun j => j = bB) (v := .slice B1 L d1) (xs := p.order) (ys := [(k : Int)]) rfl _ _ 25 3 8 _ rfl elemInts rfl OV3.out (some ⟨bB, 0, none⟩) 1 1 rfl HB3.out rfl ?bb ?bl (by have := KE3.out.size; (try simp only); omega) (fun j hj _ => ⟨by (try simp only at hj ⊢); omega, fun e => nvB j e hj⟩) ?_)
       case bb => have := HLL.out; simp; omega
       case bl => have := HLL.out; unfold maxLen; simp; omega
       intro v2 Z4 hown hg hor
       have hrow : ∀ j, (Value.slice B1 L d1).ownBlock = some j → X.heap.size ≤ j := OV3.out.1
       have s4 : Z3.heap.size ≤ Z4.heap.size := hg.size
       have KE4 := Lib.hid (show Below X.heap.size X Z4 from below_of_grown KE3.out hg (fun j hj => hrow j hj))
       have GT4 := Lib.hid (GT3.out.keep (hg.block bT lbT3 (fun e => nvT bT e.symm rfl)))
       have lbT4 : bT < Z4.heap.size := by omega
       have n2T0 : ∀ j, v2.ownBlock = some j → j ≠ bT := fun j hj => by
        rcases hor with h | h
        ·
         rw [h] at hj; exact nvT j hj
        ·
         rw [h] at hj; injection hj with hj; omega
       obtain ⟨B2, d2, rfl⟩ := hown.slice
       have hle : (p.order ++ [(k : Int)]).length = L + 1 := by rw [HLL.out]; simp
       rw [hle] at hown n2T0 ⊢
       have n2T := n2T0
       have OW4 := Lib.hid hown
       clear hown hg hor hrow hle nvB HB3 OV3 nvT n2T0
       refine tr_on (kp KE4.out) ?_
       refine tr_step (by simp only [opT, opS, opZ]; rfl) ?_
       go_wp2_with fail
       refine (CALL.out Z4 (fun j => wi.heap.size ≤ j ∧ ¬ j = bT) B2 d2 KE4.out (fun j h1 h2 => ⟨h1, by omega⟩) (OW4.out.clsFlat (S' := fun j => wi.heap.size ≤ j ∧ ¬ j = bT) fun j hj => by have h1 := OW4.out.1 j hj; have h2 := n2T j hj; (try simp only at h1 ⊢); omega).row).mono ?_
       rintro e Z5 ⟨A10, n10, c10, A11, n11, c11, A12, n12, c12, gn, ge, b, rfl, hfr, hb⟩
       have s5 := hb.size
       have FE := Lib.hid (hfr.mono (S' := fun j => wi.heap.size ≤ j ∧ ¬ j = bT) fun j hj hl => by (try simp only at hj ⊢); omega)
       have KE5 := thn KE4 hb
       have GT5 := Lib.hid (GT4.out.keep (hb.block _ lbT4))
       have lbT5 : bT < Z5.heap.size := by omega
       clear hb hfr OW4
       go_wp2_with fail
       refine tr_on (kp KE5.out) ?_
       repeat (refine tr_take (v := ?_) (by simp only [opT, opS, opZ]; rfl) (Or.inl ⟨by rfl, fun W hW => ?_⟩) (kp KE5.out) ?_; rotate_left; (clear hW; go_simp; with_reducible rfl); simp only [Act.put, putT, putZ, putS])
       obtain ⟨h0, h1, h2, h3, hf⟩ := GT5.out
       refine tr_step (by simp only [opT, opS, opZ]; rfl) ?_
       obtain ⟨Y, hY⟩ : ∃ Y, Y = set4 Z5 bT (.slice A11 n11 c11) (.slice A12 n12 c12) (.int .i64 gn) (.int .i64 ge) := ⟨_, rfl⟩
       obtain ⟨KY, GY, FY, lY⟩ := leafY KE5.out vbT lbT5 GT5.out FE.out (.slice A11 n11 c11) (.slice A12 n12 c12) (.int .i64 gn) (.int .i64 ge)
       rw [← hY] at KY GY FY lY
       unfold set4 at hY
       go_wp2_with fail
       rw [← hY]
       clear hY h0 h1 h2 h3 hf FE
       refine tr_on (kp KY.out) ?_
       repeat (refine tr_take (v := ?_) (by simp only [opT, opS, opZ]; rfl) (Or.inl ⟨by rfl, fun W hW => ?_⟩) (kp KY.out) ?_; rotate_left; (clear hW; go_simp; with_reducible rfl); simp only [Act.put, putT, putZ, putS])
       refine tr_done ?_
       exact HCUT2.out bT A10 n10 c10 A11 n11 c11 A12 n12 c12 gn ge b Y KY.out GY.out FY.out vbT lY
     ·
      refine Lib.hid ?_
      obtain ⟨Z1, hV⟩ : ∃ V, V = Z0.alloc (.cells #[.slice none 0 0, .slice none 0 0, .int .i64 0, .int .i64 0] 31) := ⟨_, rfl⟩
      have hb : Below Z0.heap.size Z0 Z1 := by rw [hV]; exact (Below.refl _ Z0).alloc (Nat.le_refl _) _
      have s1 : Z0.heap.size < Z1.heap.size := by rw [hV]; simp
      have GT1 := Lib.hid (show Box4 Z1 Z0.heap.size _ _ _ _ from by rw [hV]; exact Box4.made Z0 31 (.slice none 0 0) (.slice none 0 0) (.int .i64 0) (.int .i64 0))
      have KE1 := thn KE0 hb
      go_wp2_with fail
      rw [← hV]
      clear hV hb
      obtain ⟨bT, hbT⟩ : ∃ b, b = Z0.heap.size := ⟨_, rfl⟩
      rw [← hbT] at GT1
      simp only [← hbT]
      have vbT : X.heap.size ≤ bT := by have := KE0.out.size; omega
      have lbT1 : bT < Z1.heap.size := by omega
      clear hbT
      refine tr_on (kp KE1.out) ?_
      refine tr_two (by simp only [opT, opS, opZ]; rfl) ?_ (by simp only [opT, opS, opZ]; rfl) (Hid.out ?_)
      ·
       skip
       refine (wpList_own_append (ty := tInt) (W := Z1) (S := fun _ => True) (Sy := fun j => S j ∧ j < w.heap.size) (v := .slice none 0 0) (xs := []) (ys := p.order) rfl _ _ 25 3 8 _ rfl elemInts rfl (Own.nil _ _ _ _) AO L cO rfl (HPX.out.below KE1.out) HLL.out ?bb ?bl trivial (fun _ _ _ => ⟨trivial, by simp [Value.ownBlock]⟩) ?_)
       case bb => have := HLL.out; simp; omega
       case bl => have := HLL.out; unfold maxLen; simp; omega
       intro v1 Z2 hown hg hor
       have hb : Below Z1.heap.size Z1 Z2 := (Below.refl _ Z1).grown hg (Nat.le_refl _) (fun k hk => by simp [Value.ownBlock] at hk)
       have hvo : ∀ j, v1.ownBlock = some j → j = Z1.heap.size := fun j hj => by
        rcases hor with h | h
        ·
         rw [h] at hj; simp [Value.ownBlock] at hj
        ·
         rw [h] at hj; injection hj with hj; exact hj.symm
       try rw [List.nil_append] at hown
       obtain ⟨B1, d1, rfl⟩ := hown.slice
       rw [← HLL.out] at hown hvo ⊢
       have OV2 := Lib.hid (hown.clsFlat (S' := fun j => X.heap.size ≤ j) fun j hj => by have := hvo j hj; have := KE1.out.size; omega)
       have s2 := hb.size
       have nvT : ∀ j, (Value.slice B1 L d1).ownBlock = some j → j ≠ bT := fun j hj => by have := hvo j hj; omega
       have KE2 := thn KE1 hb
       have GT2 := Lib.hid (GT1.out.keep (hb.block _ lbT1))
       have lbT2 : bT < Z2.heap.size := by omega
       clear hown hg hor hb hvo
       refine tr_on (kp KE2.out) ?_
       refine tr_step (by simp only [opT, opS, opZ]; rfl) ?_
       obtain ⟨Z3, hV⟩ : ∃ V, V = Z2.alloc (.cells #[.int .i64 (k : Int)] 3) := ⟨_, rfl⟩
       have hb : Below Z2.heap.size Z2 Z3 := by rw [hV]; exact (Below.refl _ Z2).alloc (Nat.le_refl _) _
       have s3 : Z2.heap.size < Z3.heap.size := by rw [hV]; simp
       have HB3 := Lib.hid (show Row tInt Z3 (fun j => j = Z2.heap.size) (.slice (some ⟨Z2.heap.size, 0, none⟩) 1 1) [(k : Int)] from by rw [hV]; exact Row.box tInt Z2 (cs := [.int .i64 (k : Int)]) 3 _ rfl rfl)
       have KE3 := thn KE2 hb
       have OV3 := Lib.hid (OV2.out.below hb)
       have GT3 := Lib.hid (GT2.out.keep (hb.block _ lbT2))
       have lbT3 : bT < Z3.heap.size := by omega
       go_wp2_with fail
       rw [← hV]
       clear hV hb
       obtain ⟨bB, hbB⟩ : ∃ b, b = Z2.heap.size := ⟨_, rfl⟩
       rw [← hbB] at HB3
       simp only [← hbB]
       have vbB : X.heap.size ≤ bB := by have := KE2.out.size; omega
       have lbB3 : bB < Z3.heap.size := by omega
       have nvB : ∀ j, (Value.slice B1 L d1).ownBlock = some j → j ≠ bB := fun j hj => by have := OV2.out.lt j hj; omega
       clear hbB
       refine tr_on (kp KE3.out) ?_
       refine tr_step (by simp only [opT, opS, opZ]; rfl) ?_
       refine (wpList_own_append (ty := tInt) (W := Z3) (S := fun j => X.heap.size ≤ j) (Sy := fun j => j = bB) (v := .slice B1 L d1) (xs := p.order) (ys := [(k : Int)]) rfl _ _ 25 3 8 _ rfl elemInts rfl OV3.out (some ⟨bB, 0, none⟩) 1 1 rfl HB3.out rfl ?bb ?bl (by have := KE3.out.size; (try simp only); omega) (fun j hj _ => ⟨by (try simp only at hj ⊢); omega, fun e => nvB j e hj⟩) ?_)
       case bb => have := HLL.out; simp; omega
       case bl => have := HLL.out; unfold maxLen; simp; omega
       intro v2 Z4 hown hg hor
       have hrow : ∀ j, (Value.slice B1 L d1).ownBlock = some j → X.heap.size ≤ j := OV3.out.1
       have s4 : Z3.heap.size ≤ Z4.heap.size := hg.size
       have KE4 := Lib.hid (show Below X.heap.size X Z4 from below_of_grown KE3.out hg (fun j hj => hrow j hj))
       have GT4 := Lib.hid (GT3.out.keep (hg.block bT lbT3 (fun e => nvT bT e.symm rfl)))
       have lbT4 : bT < Z4.heap.size := by omega
       have n2T0 : ∀ j, v2.ownBlock = some j → j ≠ bT := fun j hj => by
        rcases hor with h | h
        ·
         rw [h] at hj; exact nvT j hj
        ·
         rw [h] at hj; injection hj with hj; omega
       obtain ⟨B2, d2, rfl⟩ := hown.slice
       have hle : (p.order ++ [(k : Int)]).length = L + 1 := by rw [HLL.out]; simp
       rw [hle] at hown n2T0 ⊢
       have n2T := n2T0
       have OW4 := Lib.hid hown
       clear hown hg hor hrow hle nvB HB3 OV3 nvT n2T0
       refine tr_on (kp KE4.out) ?_
       refine tr_step (by simp only [opT, opS, opZ]; rfl) ?_
       go_wp2_with fail
       refine (CALL.out Z4 (fun j => wi.heap.size ≤ j ∧ ¬ j = bT) B2 d2 KE4.out (fun j h1 h2 => ⟨h1, by omega⟩) (OW4.out.clsFlat (S' := fun j => wi.heap.size ≤ j ∧ ¬ j = bT) fun j hj => by have h1 := OW4.out.1 j hj; have h2 := n2T j hj; (try simp only at h1 ⊢); omega).row).mono ?_
       rintro e Z5 ⟨A10, n10, c10, A11, n11, c11, A12, n12, c12, gn, ge, b, rfl, hfr, hb⟩
       have s5 := hb.size
       have FE := Lib.hid (hfr.mono (S' := fun j => wi.heap.size ≤ j ∧ ¬ j = bT) fun j hj hl => by (try simp only at hj ⊢); omega)
       have KE5 := thn KE4 hb
       have GT5 := Lib.hid (GT4.out.keep (hb.block _ lbT4))
       have lbT5 : bT < Z5.heap.size := by omega
       clear hb hfr OW4
       go_wp2_with fail
       refine tr_on (kp KE5.out) ?_
       repeat (refine tr_take (v := ?_) (by simp only [opT, opS, opZ]; rfl) (Or.inl ⟨by rfl, fun W hW => ?_⟩) (kp KE5.out) ?_; rotate_left; (clear hW; go_simp; with_reducible rfl); simp only [Act.put, putT, putZ, putS])
       obtain ⟨h0, h1, h2, h3, hf⟩ := GT5.out
       refine tr_step (by simp only [opT, opS, opZ]; rfl) ?_
       obtain ⟨Y, hY⟩ : ∃ Y, Y = set4 Z5 bT (.slice A11 n11 c11) (.slice A12 n12 c12) (.int .i64 gn) (.int .i64 ge) := ⟨_, rfl⟩
       obtain ⟨KY, GY, FY, lY⟩ := leafY KE5.out vbT lbT5 GT5.out FE.out (.slice A11 n11 c11) (.slice A12 n12 c12) (.int .i64 gn) (.int .i64 ge)
       rw [← hY] at KY GY FY lY
       unfold set4 at hY
       go_wp2_with fail
       rw [← hY]
       clear hY h0 h1 h2 h3 hf FE
       refine tr_on (kp KY.out) ?_
       repeat (refine tr_take (v := ?_) (by simp only [opT, opS, opZ]; rfl) (Or.inl ⟨by rfl, fun W hW => ?_⟩) (kp KY.out) ?_; rotate_left; (clear hW; go_simp; with_reducible rfl); simp only [Act.put, putT, putZ, putS])
       refine tr_done ?_
       exact HCUT2.out bT A10 n10 c10 A11 n11 c11 A12 n12 c12 gn ge b Y KY.out GY.out FY.out vbT lY
      ·
       refine Lib.hid ?_
       obtain ⟨Z2, hV⟩ : ∃ V, V = Z1.alloc (.cells #[.int .i64 (k : Int)] 3) := ⟨_, rfl⟩
       have hb : Below Z1.heap.size Z1 Z2 := by rw [hV]; exact (Below.refl _ Z1).alloc (Nat.le_refl _) _
       have s2 : Z1.heap.size < Z2.heap.size := by rw [hV]; simp
       have HB2 := Lib.hid (show Row tInt Z2 (fun j => j = Z1.heap.size) (.slice (some ⟨Z1.heap.size, 0, none⟩) 1 1) [(k : Int)] from by rw [hV]; exact Row.box tInt Z1 (cs := [.int .i64 (k : Int)]) 3 _ rfl rfl)
       have KE2 := thn KE1 hb
       have GT2 := Lib.hid (GT1.out.keep (hb.block _ lbT1))
       have lbT2 : bT < Z2.heap.size := by omega
       go_wp2_with fail
       rw [← hV]
       clear hV hb
       obtain ⟨bB, hbB⟩ : ∃ b, b = Z1.heap.size := ⟨_, rfl⟩
       rw [← hbB] at HB2
       simp only [← hbB]
       have vbB : X.heap.size ≤ bB := by have := KE1.out.size; omega
       have lbB2 : bB < Z2.heap.size := by omega
       clear hbB
       refine tr_on (kp KE2.out) ?_
       refine tr_step (by simp only [opT, opS, opZ]; rfl) ?_
       refine (wpList_own_append (ty := tInt) (W := Z2) (S := fun _ => True) (Sy := fun j => S j ∧ j < w.heap.size) (v := .slice none 0 0) (xs := []) (ys := p.order) rfl _ _ 25 3 8 _ rfl elemInts rfl (Own.nil _ _ _ _) AO L cO rfl (HPX.out.below KE2.out) HLL.out ?bb ?bl trivial (fun _ _ _ => ⟨trivial, by simp [Value.ownBlock]⟩) ?_)
       case bb => have := HLL.out; simp; omega
       case bl => have := HLL.out; unfold maxLen; simp; omega
       intro v1 Z3 hown hg hor
       have hb : Below Z2.heap.size Z2 Z3 := (Below.refl _ Z2).grown hg (Nat.le_refl _) (fun k hk => by simp [Value.ownBlock] at hk)
       have hvo : ∀ j, v1.ownBlock = some j → j = Z2.heap.size := fun j hj => by
        rcases hor with h | h
        ·
         rw [h] at hj; simp [Value.ownBlock] at hj
        ·
         rw [h] at hj; injection hj with hj; exact hj.symm
       try rw [List.nil_append] at hown
       obtain ⟨B1, d1, rfl⟩ := hown.slice
       rw [← HLL.out] at hown hvo ⊢
       have OV3 := Lib.hid (hown.clsFlat (S' := fun j => X.heap.size ≤ j) fun j hj => by have := hvo j hj; have := KE2.out.size; omega)
       have s3 := hb.size
       have nvB : ∀ j, (Value.slice B1 L d1).ownBlock = some j → j ≠ bB := fun j hj => by have := hvo j hj; omega
       have nvT : ∀ j, (Value.slice B1 L d1).ownBlock = some j → j ≠ bT := fun j hj => by have := hvo j hj; omega
       have KE3 := thn KE2 hb
       have HB3 := Lib.hid (HB2.out.below hb)
       have lbB3 : bB < Z3.heap.size := by omega
       have GT3 := Lib.hid (GT2.out.keep (hb.block _ lbT2))
       have lbT3 : bT < Z3.heap.size := by omega
       clear hown hg hor hb hvo
       refine tr_on (kp KE3.out) ?_
       refine tr_step (by simp only [opT, opS, opZ]; rfl) ?_
       refine (wpList_own_append (ty := tInt) (W := Z3) (S := fun j => X.heap.size ≤ j) (Sy := fun j => j = bB) (v := .slice B1 L d1) (xs := p.order) (ys := [(k : Int)]) rfl _ _ 25 3 8 _ rfl elemInts rfl OV3.out (some ⟨bB, 0, none⟩) 1 1 rfl HB3.out rfl ?bb ?bl (by have := KE3.out.size; (try simp only); omega) (fun j hj _ => ⟨by (try simp only at hj ⊢); omega, fun e => nvB j e hj⟩) ?_)
       case bb => have := HLL.out; simp; omega
       case bl => have := HLL.out; unfold maxLen; simp; omega
       intro v2 Z4 hown hg hor
       have hrow : ∀ j, (Value.slice B1 L d1).ownBlock = some j → X.heap.size ≤ j := OV3.out.1
       have s4 : Z3.heap.size ≤ Z4.heap.size := hg.size
       have KE4 := Lib.hid (show Below X.heap.size X Z4 from below_of_grown KE3.out hg (fun j hj => hrow j hj))
       have GT4 := Lib.hid (GT3.out.keep (hg.block bT lbT3 (fun e => nvT bT e.symm rfl)))
       have lbT4 : bT < Z4.heap.size := by omega
       have n2T0 : ∀ j, v2.ownBlock = some j → j ≠ bT := fun j hj => by
        rcases hor with h | h
        ·
         rw [h] at hj; exact nvT j hj
        ·
         rw [h] at hj; injection hj with hj; omega
       obtain ⟨B2, d2, rfl⟩ := hown.slice
       have hle : (p.order ++ [(k : Int)]).length = L + 1 := by rw [HLL.out]; simp
       rw [hle] at hown n2T0 ⊢
       have n2T := n2T0
       have OW4 := Lib.hid hown
       clear hown hg hor hrow hle nvB HB3 OV3 nvT n2T0
       refine tr_on (kp KE4.out) ?_
       refine tr_step (by simp only [opT, opS, opZ]; rfl) ?_
       go_wp2_with fail
       refine (CALL.out Z4 (fun j => wi.heap.size ≤ j ∧ ¬ j = bT) B2 d2 KE4.out (fun j h1 h2 => ⟨h1, by omega⟩) (OW4.out.clsFlat (S' := fun j => wi.heap.size ≤ j ∧ ¬ j = bT) fun j hj => by have h1 := OW4.out.1 j hj; have h2 := n2T j hj; (try simp only at h1 ⊢); omega).row).mono ?_
       rintro e Z5 ⟨A10, n10, c10, A11, n11, c11, A12, n12, c12, gn, ge, b, rfl, hfr, hb⟩
       have s5 := hb.size
       have FE := Lib.hid (hfr.mono (S' := fun j => wi.heap.size ≤ j ∧ ¬ j = bT) fun j hj hl => by (try simp only at hj ⊢); omega)
       have KE5 := thn KE4 hb
       have GT5 := Lib.hid (GT4.out.keep (hb.block _ lbT4))
       have lbT5 : bT < Z5.heap.size := by omega
       clear hb hfr OW4
       go_wp2_with fail
       refine tr_on (kp KE5.out) ?_
       repeat (refine tr_take (v := ?_) (by simp only [opT, opS, opZ]; rfl) (Or.inl ⟨by rfl, fun W hW => ?_⟩) (kp KE5.out) ?_; rotate_left; (clear hW; go_simp; with_reducible rfl); simp only [Act.put, putT, putZ, putS])
       obtain ⟨h0, h1, h2, h3, hf⟩ := GT5.out
       refine tr_step (by simp only [opT, opS, opZ]; rfl) ?_
       obtain ⟨Y, hY⟩ : ∃ Y, Y = set4 Z5 bT (.slice A11 n11 c11) (.slice A12 n12 c12) (.int .i64 gn) (.int .i64 ge) := ⟨_, rfl⟩
       obtain ⟨KY, GY, FY, lY⟩ := leafY KE5.out vbT lbT5 GT5.out FE.out (.slice A11 n11 c11) (.slice A12 n12 c12) (.int .i64 gn) (.int .i64 ge)
       rw [← hY] at KY GY FY lY
       unfold set4 at hY
       go_wp2_with fail
       rw [← hY]
       clear hY h0 h1 h2 h3 hf FE
       refine tr_on (kp KY.out) ?_
       repeat (refine tr_take (v := ?_) (by simp only [opT, opS, opZ]; rfl) (Or.inl ⟨by rfl, fun W hW => ?_⟩) (kp KY.out) ?_; rotate_left; (clear hW; go_simp; with_reducible rfl); simp only [Act.put, putT, putZ, putS])
       refine tr_done ?_
       exact HCUT2.out bT A10 n10 c10 A11 n11 c11 A12 n12 c12 gn ge b Y KY.out GY.out FY.out vbT lY
  have HCUT1 := @Lib.hid _ @CUT1
  clear CUT1 ar2
  have hl0 := B0.out.hl
  obtain ⟨g0, g1, g2, g3, gf⟩ := B0.out.bg
  obtain ⟨w0, w1, w2, w3, wf⟩ := B0.out.bw
  have l1 : w.heap.size + 1 < W0.heap.size := by omega
  have l2 : w.heap.size + 1 + 1 < W0.heap.size := by omega
  cases lb with
  | false =>
   have NW := Lib.hid (show ¬ (wholeB sd p.order p.many = true ∧ good p = true) from fun h => by
    have h1 := WHOLE.out
    rw [h.1, ← HLB.out, Bool.false_and] at h1
    cases h1)
   clear g0 g1 g2 g3 gf w0 w1 w2 w3 wf
   go_wp2
   exact HCUT1.out W0 (Below.refl _ _) NW.out
  | true =>
   go_wp2_with fail
   refine (left_calls W0 _ _ sd _ _ p.order HA0.out HP0.out HP.out.good.inr (by have := HL.out; omega) (by have := HLL.out; omega)).mono ?_
   rintro e W2 ⟨rfl, hb⟩
   obtain ⟨t, ht⟩ : ∃ t, t = leftI sd p.order := ⟨_, rfl⟩
   rw [← ht]
   have HT := Lib.hid ht
   have B2 := Lib.hid (B0.out.below hb)
   have HB2 := Lib.hid hb
   have HP2 := Lib.hid (HP0.out.below hb)
   have HG2 := Lib.hid (HG0.out.below hb)
   have HW2 := Lib.hid (HW0.out.below hb)
   clear hb ht g0 g1 g2 g3 gf w0 w1 w2 w3 wf
   have hl2 := B2.out.hl
   obtain ⟨g0, g1, g2, g3, gf⟩ := B2.out.bg
   obtain ⟨w0, w1, w2, w3, wf⟩ := B2.out.bw
   have l1' : w.heap.size + 1 < W2.heap.size := by omega
   have l2' : w.heap.size + 1 + 1 < W2.heap.size := by omega
   by_cases ht0 : t = 0
   case neg =>
    have NW := Lib.hid (show ¬ (wholeB sd p.order p.many = true ∧ good p = true) from fun h => ht0 (by
     have h1 := WHOLE.out
     rw [h.1] at h1
     have h2 := h1.symm
     simp only [Bool.and_eq_true, decide_eq_true_eq] at h2
     rw [HT.out]
     exact h2.2))
    clear g0 g1 g2 g3 gf w0 w1 w2 w3 wf
    go_wp2
    exact HCUT1.out W2 HB2.out NW.out
   subst ht0
   have HWH := Lib.hid (show wholeB sd p.order p.many = true from by rw [WHOLE.out, ← HLB.out, ← HT.out]; rfl)
   cases each with
   | true =>
    have RES := Lib.hid (show findF sd good f p = some p from by rw [find_whole HWH.out, if_pos (by rw [HGD.out]; rfl)])
    obtain ⟨b0, b1, b2, b3, bf⟩ := B2.out.b0
    have l3 : w.heap.size + 1 + 1 + 1 < W2.heap.size := by omega
    have nb1 : ¬ w.heap.size + 1 = w.heap.size + 1 + 1 + 1 := by omega
    clear w0 w1 w2 w3 wf
    go_wp2_with fail
    refine wp_region_schedK (fun j => ¬ j = w.heap.size + 1 + 1 + 1) [(0, true), (1, true), (2, true), (3, false), (4, true)] (by kernel_rfl) (by kernel_rfl) (fun hS => ?_)
    have HKs := Lib.hid hS
    clear hS
    have KDs := Lib.hid (Below.refl W2.heap.size W2).drew
    revert HKs KDs
    generalize W2.drew = Ws
    intro HKs KDs
    repeat (refine sched_take (v := ?_) (by simp only [opT, opS, opZ]; rfl) (Or.inl ⟨by rfl, fun W hW => ?_⟩) HKs.out ?_; rotate_left; (have hc := fun b o hn hb => hW.cell b o hn hb; clear hW; go_simp; with_reducible rfl); simp only [Act.put, putT, putZ, putS])
    have Bs := Lib.hid (B2.out.below KDs.out)
    have hls := Bs.out.hl
    have l3s : w.heap.size + 1 + 1 + 1 < Ws.heap.size := by omega
    clear b0 b1 b2 b3 bf
    obtain ⟨b0, b1, b2, b3, bf⟩ := Bs.out.b0
    refine sched_step (by simp only [opT, opS, opZ]; rfl) ?_
    have HK6 := Lib.hid (show Kept W2 (fun j => ¬ j = w.heap.size + 1 + 1 + 1) (set4 Ws (w.heap.size + 1 + 1 + 1) (.slice A3 p.g.nodes.length c3) (.slice A4 p.g.edges.length c4) (.int .i64 p.g.nn) (.int .i64 p.g.ne)) from HKs.out.set4 (.inr (fun h => absurd rfl h)) _ _ _ _)
    unfold set4 at HK6
    go_wp2_with fail
    refine sched_on HK6.out ?_
    repeat (refine sched_take (v := ?_) (by simp only [opT, opS, opZ]; rfl) (Or.inl ⟨by rfl, fun W hW => ?_⟩) HK6.out ?_; rotate_left; (clear hW; go_simp; with_reducible rfl); simp only [Act.put, putT, putZ, putS])
    refine sched_done ?_
    go_wp2
    refine bodyPost_ret (v := .tuple #[.slice AO L cO, .agg #[.slice A3 p.g.nodes.length c3, .slice A4 p.g.edges.length c4, .int .i64 p.g.nn, .int .i64 p.g.ne], .bool true]) (by simp [results, Tryz.results29, go_sem, b0, b1, b2, b3]; try rfl) rfl ?_
    rw [RES.out]
    have hs4 : ∀ j, ¬ j = w.heap.size + 1 + 1 + 1 → (set4 Ws (w.heap.size + 1 + 1 + 1) (.slice A3 p.g.nodes.length c3) (.slice A4 p.g.edges.length c4) (.int .i64 p.g.nn) (.int .i64 p.g.ne)).heap[j]? = Ws.heap[j]? := fun j hj => set4_heap _ _ _ _ _ _ _ hj
    exact ⟨_, _, _, _, _, _, _, _, _, _, _, _, rfl, ⟨rfl, rfl, rfl, ((HP2.out.below KDs.out).move fun j hj _ => hs4 j (by (try simp only at hj); omega)).mono fun j hj _ => .inl hj.1, ((HG2.out.below KDs.out).move fun j hj _ => hs4 j (by (try simp only at hj); omega)).mono fun j hj _ => .inl hj.1⟩, set4_below Bs.out.K (by omega) _ _ _ _⟩
   | false =>
    go_wp2_with fail
    refine (refSameB_calls W2 (fun _ => True) p.g want _ _ _ _ (HG2.out.mono fun _ _ _ => trivial) HW2.out).mono ?_
    rintro e W3 ⟨bb, rfl, hbb, hb⟩
    have HBB := Lib.hid (show good p = bb from by
     rw [HGD.out]
     show (false || reachB want p) = bb
     rw [Bool.false_or]
     exact (reachB_iff hbb).symm)
    have B3 := Lib.hid (B2.out.below hb)
    have HB3 := thn HB2 hb
    have HP3 := Lib.hid (HP2.out.below hb)
    have HG3 := Lib.hid (HG2.out.below hb)
    clear hb hbb g0 g1 g2 g3 gf w0 w1 w2 w3 wf
    have hl3 := B3.out.hl
    cases bb with
    | false =>
     have NW := Lib.hid (show ¬ (wholeB sd p.order p.many = true ∧ good p = true) from fun h => by (have := h.2; rw [HBB.out] at this; cases this))
     go_wp2
     exact HCUT1.out W3 HB3.out NW.out
    | true =>
     have RES := Lib.hid (show findF sd good f p = some p from by rw [find_whole HWH.out, if_pos HBB.out])
     obtain ⟨g0, g1, g2, g3, gf⟩ := B3.out.bg
     obtain ⟨b0, b1, b2, b3, bf⟩ := B3.out.b0
     have l1 : w.heap.size + 1 < W3.heap.size := by omega
     have l3 : w.heap.size + 1 + 1 + 1 < W3.heap.size := by omega
     have nb1 : ¬ w.heap.size + 1 = w.heap.size + 1 + 1 + 1 := by omega
     go_wp2_with fail
     refine wp_region_schedK (fun j => ¬ j = w.heap.size + 1 + 1 + 1) [(0, true), (1, true), (2, true), (3, false), (4, true)] (by kernel_rfl) (by kernel_rfl) (fun hS => ?_)
     have HKs := Lib.hid hS
     clear hS
     have KDs := Lib.hid (Below.refl W3.heap.size W3).drew
     revert HKs KDs
     generalize W3.drew = Ws
     intro HKs KDs
     repeat (refine sched_take (v := ?_) (by simp only [opT, opS, opZ]; rfl) (Or.inl ⟨by rfl, fun W hW => ?_⟩) HKs.out ?_; rotate_left; (have hc := fun b o hn hb => hW.cell b o hn hb; clear hW; go_simp; with_reducible rfl); simp only [Act.put, putT, putZ, putS])
     have Bs := Lib.hid (B3.out.below KDs.out)
     have hls := Bs.out.hl
     have l3s : w.heap.size + 1 + 1 + 1 < Ws.heap.size := by omega
     clear b0 b1 b2 b3 bf
     obtain ⟨b0, b1, b2, b3, bf⟩ := Bs.out.b0
     refine sched_step (by simp only [opT, opS, opZ]; rfl) ?_
     have HK6 := Lib.hid (show Kept W3 (fun j => ¬ j = w.heap.size + 1 + 1 + 1) (set4 Ws (w.heap.size + 1 + 1 + 1) (.slice A3 p.g.nodes.length c3) (.slice A4 p.g.edges.length c4) (.int .i64 p.g.nn) (.int .i64 p.g.ne)) from HKs.out.set4 (.inr (fun h => absurd rfl h)) _ _ _ _)
     unfold set4 at HK6
     go_wp2_with fail
     refine sched_on HK6.out ?_
     repeat (refine sched_take (v := ?_) (by simp only [opT, opS, opZ]; rfl) (Or.inl ⟨by rfl, fun W hW => ?_⟩) HK6.out ?_; rotate_left; (clear hW; go_simp; with_reducible rfl); simp only [Act.put, putT, putZ, putS])
     refine sched_done ?_
     go_wp2
     refine bodyPost_ret (v := .tuple #[.slice AO L cO, .agg #[.slice A3 p.g.nodes.length c3, .slice A4 p.g.edges.length c4, .int .i64 p.g.nn, .int .i64 p.g.ne], .bool true]) (by simp [results, Tryz.results29, go_sem, b0, b1, b2, b3]; try rfl) rfl ?_
     rw [RES.out]
     have hs4 : ∀ j, ¬ j = w.heap.size + 1 + 1 + 1 → (set4 Ws (w.heap.size + 1 + 1 + 1) (.slice A3 p.g.nodes.length c3) (.slice A4 p.g.edges.length c4) (.int .i64 p.g.nn) (.int .i64 p.g.ne)).heap[j]? = Ws.heap[j]? := fun j hj => set4_heap _ _ _ _ _ _ _ hj
     exact ⟨_, _, _, _, _, _, _, _, _, _, _, _, rfl, ⟨rfl, rfl, rfl, ((HP3.out.below KDs.out).move fun j hj _ => hs4 j (by (try simp only at hj); omega)).mono fun j hj _ => .inl hj.1, ((HG3.out.below KDs.out).move fun j hj _ => hs4 j (by (try simp only at hj); omega)).mono fun j hj _ => .inl hj.1⟩, set4_below Bs.out.K (by omega) _ _ _ _⟩
 have HCUT := @Lib.hid _ @CUT0
 clear CUT0 ar1
 by_cases hL0 : L = 0
 ·
  have hlb1 : lb = true := by rw [hlb]; exact lastB_len (by rw [← HLL.out]; exact hL0)
  subst hL0
  rw [hlb1] at HCUT
  clear hlb hlb1 HLB
  go_wp2
  exact HCUT.out
 ·
  obtain ⟨L', rfl⟩ : ∃ L', L = L' + 1 := ⟨L - 1, by omega⟩
  obtain ⟨z, hz⟩ := getElem?_of_lt (show L' < p.order.length by have := HLL.out; omega)
  obtain ⟨hz0, hz1⟩ := HP.out.good.inr z (List.mem_of_getElem? hz)
  obtain ⟨m, rfl⟩ : ∃ m : Nat, z = (m : Int) := ⟨z.toNat, (Int.toNat_of_nonneg hz0).symm⟩
  obtain ⟨d, hd⟩ := getElem?_of_lt (show m < sd.calls.length by omega)
  have hlast : lastB sd p.order = decide (0 ≤ d.to) := lastB_last (by rw [← HLL.out]; exact hz) hd
  obtain ⟨b', off', rfl, _, hbl', y0⟩ := HP0.out.atInt hz
  obtain ⟨b4, off4, a1, d1, a2, d2, a3, d3, rfl, hbl4, _, x0, x1, x2, x3, x4, x5, x6, x7, x8, x9, x10, x11, x12⟩ := HA0.out.atCallF hd
  have hmN : m < N := by have := HNN.out; omega
  have hmN' : (m : Int) < (N : Int) := by omega
  have hlb1 : lb = decide (0 ≤ d.to) := by rw [hlb, hlast]
  clear hz hd hlast hz0 hz1 hlb HLB hL0
  by_cases hto : 0 ≤ d.to
  ·
   have hlb2 : lb = true := by rw [hlb1]; simpa using hto
   rw [hlb2] at HCUT
   clear hlb1 hlb2
   go_wp2
   exact HCUT.out
  ·
   have hlb2 : lb = false := by rw [hlb1]; simpa using hto
   rw [hlb2] at HCUT
   clear hlb1 hlb2
   go_wp2
   exact HCUT.out
theorem rfind_calls (sd : SD) (each : Bool) (want : GraphD) (hc : sd.c.ok) (hl : sd.calls.length ≤ 10) (hu : UniqF sd) (hneed : sd.need = (sd.calls.length : Int) - pendOf sd.calls) : ∀ f, FindC sd each want f := by
 intro f
 induction f with
 | zero => exact find_step sd each want hc hl hu hneed 0 (fun f' h => by omega)
 | succ f ih => exact find_step sd each want hc hl hu hneed (f + 1) (fun f' h => by
   obtain rfl : f = f' := by omega
   exact ih)
end Go.Proofs.YtpehmmdbjakkpaaGreat
namespace Go.Proofs.YtpehmmdbjakkpaaGreat
open Go.RowKit Go.Shelf
theorem firstD_none {c : CfgD} {l : List EvD} {good : PathD → Bool} (h : startD c l = none) : firstD (startD c l) good = (PathD.zero, 1) := by rw [h]; rfl
theorem firstD_miss {c : CfgD} {l : List EvD} {sd : SD} {good : PathD → Bool} (h : startD c l = some sd) (hf : findF sd good sd.calls.length PathD.start = none) : firstD (startD c l) good = (PathD.zero, 2) := by rw [h, first_find, hf]
theorem firstD_hit {c : CfgD} {l : List EvD} {sd : SD} {good : PathD → Bool} {x : PathD} (h : startD c l = some sd) (hf : findF sd good sd.calls.length PathD.start = some x) : firstD (startD c l) good = (x, 0) := by rw [h, first_find, hf]
theorem goodE_false (g : GraphD) : goodE false g = reachB g := by
 funext x
 unfold goodE
 exact Bool.false_or _
set_option maxRecDepth 100000 in
set_option maxHeartbeats 16000000 in
theorem rsearch_calls (w : World) (c : CfgD) (v : Value) (l : List EvD) (h : Row tEv w (fun _ => True) v l) (hlen : l.length ≤ 1000000) (hok : ∀ x ∈ l, okI x.th) : Calls Tryz.prog 13 #[c.val, v] w (SearchPost w (firstD (startD c l) fun _ => true)) := by
 obtain ⟨A, cA, rfl⟩ := h.slice
 have HGE := Lib.hid (show goodE true GraphD.zero = fun _ => true from rfl)
 have H := Lib.hid h
 have HOK := Lib.hid hok
 clear h hok
 unfold CfgD.val
 obtain ⟨W0, hW⟩ : ∃ W0, W0 = (w.alloc (.cells #[.int .i64 c.nodes, .int .i64 c.edges, .int .i64 c.props, .int .i64 c.ids, .int .i64 c.eids] 23)).alloc (.cells #[.slice none 0 0, .slice none 0 0, .int .i64 0, .int .i64 0] 31) := ⟨_, rfl⟩
 have hb0 : Below w.heap.size w W0 := by rw [hW]; exact (by repeat (first | exact Below.refl _ _ | refine Below.alloc ?_ (by simp; try omega) _))
 have s0 : w.heap.size + 1 < W0.heap.size := by rw [hW]; simp
 have C0 := Lib.hid (show Box5 W0 w.heap.size _ _ _ _ _ from by rw [hW]; exact (Box5.made w 23 (.int .i64 c.nodes) (.int .i64 c.edges) (.int .i64 c.props) (.int .i64 c.ids) (.int .i64 c.eids)).keep (Below.heap_alloc _ _ _ (by simp)))
 have B0 := Lib.hid (show Box4 W0 (w.heap.size + 1) (.slice none 0 0) (.slice none 0 0) (.int .i64 0) (.int .i64 0) from by
  rw [hW]
  have := Box4.made (w.alloc (.cells #[.int .i64 c.nodes, .int .i64 c.edges, .int .i64 c.props, .int .i64 c.ids, .int .i64 c.eids] 23)) 31 (.slice none 0 0) (.slice none 0 0) (.int .i64 0) (.int .i64 0)
  rw [World.size_alloc] at this
  exact this)
 have K0 := Lib.hid hb0
 clear hb0
 obtain ⟨c0, c1, c2, c3', c4', cf⟩ := C0.out
 have l0 : w.heap.size < W0.heap.size := by omega
 go_enter Tryz.func13, Tryz.ntmps13
 go_wp2_with fail
 rw [← hW]
 clear hW
 refine (rcalls_calls W0 c _ l (H.out.below K0.out) hlen HOK.out).mono ?_
 rintro e w1 hp
 unfold RCallsPost at hp
 clear c0 c1 c2 c3' c4' cf
 cases hst : startD c l with
 | none =>
  rw [hst] at hp
  obtain ⟨rfl, hb⟩ := hp
  have HS := Lib.hid (firstD_none (good := fun _ => true) hst)
  have B9 := B0.out.keep (hb.block _ s0)
  have l1 : w.heap.size + 1 < w1.heap.size := by have := hb.size; omega
  have K1 := thn K0 hb
  clear hb hst
  obtain ⟨b0, b1, b2, b3, bf⟩ := B9
  go_wp2
  refine bodyPost_ret (v := .tuple #[.slice none 0 0, .agg #[.slice none 0 0, .slice none 0 0, .int .i64 0, .int .i64 0], .int .i64 1]) (by simp [results, Tryz.results13, go_sem, b0, b1, b2, b3]; try rfl) rfl ?_
  rw [HS.out]
  exact ⟨_, _, _, rfl, Row.nil _ _ _, Gr.zero _ _ _ _, set4_below K1.out (by omega) _ _ _ _⟩
 | some sd =>
  rw [hst] at hp
  obtain ⟨vA, rfl, hA, hb⟩ := hp
  obtain ⟨hc0, hc2, hc3⟩ := startD_ok hst
  subst hc0
  have HS := Lib.hid hst
  have HC := Lib.hid hc2
  have HL3 := Lib.hid hc3
  have HU := Lib.hid (start_uniq hst)
  have HND := Lib.hid (start_need hst)
  obtain ⟨AA, cAA, rfl⟩ := hA.slice
  obtain ⟨N, hNN⟩ : ∃ N, N = sd.calls.length := ⟨_, rfl⟩
  rw [← hNN] at hA ⊢
  have HNN := Lib.hid hNN
  have HA := Lib.hid hA
  have B1' := Lib.hid (B0.out.keep (hb.block _ s0))
  have C1 := Lib.hid (C0.out.keep (hb.block _ l0))
  have K1 := thn K0 hb
  have s1 := hb.size
  have HB1 := Lib.hid hb
  clear hb hst hA hc2 hc3 B0 C0 hNN
  have l1 : w.heap.size + 1 < w1.heap.size := by omega
  have l1' : w.heap.size < w1.heap.size := by omega
  obtain ⟨c0, c1, c2, c3', c4', cf⟩ := C1.out
  obtain ⟨b0, b1, b2, b3, bf⟩ := B1'.out
  go_wp2_with fail
  rename_i Kr ar
  have AR := Lib.hid ar
  clear ar
  have CUT : ∀ {u0 u1 u2 u3 u4 u6 u7 u8 u12 u13 u14 u15 u16 u17 u18 u19 u20 u21 u22 u23 u24 u25 u26 u27 u28 u29 u30 u31 u32 u33 u34 u35 : Value} (bT : Nat) (A10 : Option Addr) (n10 c10 : Nat) (A11 : Option Addr) (n11 c11 : Nat) (A12 : Option Addr) (n12 c12 : Nat) (gn ge : Int) (b : Bool) (Y : World), Below w1.heap.size w1 Y → FRes Y (fun j => w1.heap.size ≤ j ∧ ¬ j = bT) (findF sd (fun _ => true) sd.calls.length PathD.start) A10 n10 c10 A11 n11 c11 A12 n12 c12 gn ge b → Box4 Y bT (.slice A11 n11 c11) (.slice A12 n12 c12) (.int .i64 gn) (.int .i64 ge) → w1.heap.size ≤ bT → bT < Y.heap.size → Kr {tmps := (u0 :: u1 :: u2 :: u3 :: u4 :: .pointer (some ⟨w.heap.size + 1, 0, none⟩) :: u6 :: u7 :: u8 :: .slice A10 n10 c10 :: .pointer (some ⟨bT, 0, none⟩) :: .bool b :: u12 :: u13 :: u14 :: u15 :: u16 :: u17 :: u18 :: u19 :: u20 :: u21 :: u22 :: u23 :: u24 :: u25 :: u26 :: u27 :: u28 :: u29 :: u30 :: u31 :: u32 :: u33 :: u34 :: u35 :: []).toArray, defers := []} Y := by
   intro u0 u1 u2 u3 u4 u6 u7 u8 u12 u13 u14 u15 u16 u17 u18 u19 u20 u21 u22 u23 u24 u25 u26 u27 u28 u29 u30 u31 u32 u33 u34 u35 bT A10 n10 c10 A11 n11 c11 A12 n12 c12 gn ge b Y hky hfy hgy vbT lbY
   refine AR.out _ _ ?_
   clear AR Kr c0 c1 c2 c3' c4' cf b0 b1 b2 b3 bf
   have KY := Lib.hid hky
   have FY := Lib.hid hfy
   have GY := Lib.hid hgy
   clear hky hfy hgy
   have B9 := B1'.out.keep (KY.out.block _ l1)
   have K9 := Lib.hid (K1.out.trans (KY.out.mono K1.out.size))
   have l9 : w.heap.size + 1 < Y.heap.size := by have := KY.out.size; omega
   cases hres : findF sd (fun _ => true) sd.calls.length PathD.start with
   | none =>
    rw [hres] at FY
    have hbf : b = false := FY.out
    subst hbf
    have HS2 := Lib.hid (firstD_miss HS.out hres)
    clear hres
    obtain ⟨b0, b1, b2, b3, bf⟩ := B9
    go_wp2
    refine bodyPost_ret (v := .tuple #[.slice none 0 0, .agg #[.slice none 0 0, .slice none 0 0, .int .i64 0, .int .i64 0], .int .i64 2]) (by simp [results, Tryz.results13, go_sem, b0, b1, b2, b3]; try rfl) rfl ?_
    rw [HS2.out]
    exact ⟨_, _, _, rfl, Row.nil _ _ _, Gr.zero _ _ _ _, set4_below K9.out (by omega) _ _ _ _⟩
   | some x =>
    rw [hres] at FY
    obtain ⟨hbt, hgn, hge, hfo, hfg⟩ := FY.out
    subst hbt hgn hge
    have HS2 := Lib.hid (firstD_hit HS.out hres)
    have FO := Lib.hid (hfo.mono (S' := fun j => w1.heap.size ≤ j) fun j hj _ => hj.1)
    have FG := Lib.hid (hfg.mono (S' := fun j => w1.heap.size ≤ j) fun j hj _ => hj.1)
    obtain ⟨h0, h1, h2, h3, hf⟩ := GY.out
    obtain ⟨b0, b1, b2, b3, bf⟩ := B9
    have lT : bT < Y.heap.size := by omega
   
    clear hfo hfg FY hres
    have nb1 : ¬ bT = w.heap.size + 1 := by omega
    go_wp2_with fail
    refine wp_region_schedK (fun j => ¬ j = w.heap.size + 1) [(0, true), (1, true), (2, true), (3, false), (4, true)] (by kernel_rfl) (by kernel_rfl) (fun hS => ?_)
    have HKs := Lib.hid hS
    clear hS
    have KDs := Lib.hid (Below.refl Y.heap.size Y).drew
    revert HKs KDs
    generalize Y.drew = Ws
    intro HKs KDs
    repeat (refine sched_take (v := ?_) (by simp only [opT, opS, opZ]; rfl) (Or.inl ⟨by rfl, fun W hW => ?_⟩) HKs.out ?_; rotate_left; (have hc := fun b o hn hb => hW.cell b o hn hb; clear hW; go_simp; with_reducible rfl); simp only [Act.put, putT, putZ, putS])
    have Bs := Lib.hid (B1'.out.keep ((KDs.out.block _ l9).trans (KY.out.block _ l1)))
    have l9s : w.heap.size + 1 < Ws.heap.size := by have := KDs.out.size; omega
    clear b0 b1 b2 b3 bf
    obtain ⟨b0, b1, b2, b3, bf⟩ := Bs.out
    refine sched_step (by simp only [opT, opS, opZ]; rfl) ?_
    have HK6 := Lib.hid (show Kept Y (fun j => ¬ j = w.heap.size + 1) (set4 Ws (w.heap.size + 1) (.slice A11 n11 c11) (.slice A12 n12 c12) (.int .i64 x.g.nn) (.int .i64 x.g.ne)) from HKs.out.set4 (.inr (fun h => absurd rfl h)) _ _ _ _)
    unfold set4 at HK6
    go_wp2_with fail
    refine sched_on HK6.out ?_
    repeat (refine sched_take (v := ?_) (by simp only [opT, opS, opZ]; rfl) (Or.inl ⟨by rfl, fun W hW => ?_⟩) HK6.out ?_; rotate_left; (clear hW; go_simp; with_reducible rfl); simp only [Act.put, putT, putZ, putS])
    refine sched_done ?_
    go_wp2
    refine bodyPost_ret (v := .tuple #[.slice A10 n10 c10, .agg #[.slice A11 n11 c11, .slice A12 n12 c12, .int .i64 x.g.nn, .int .i64 x.g.ne], .int .i64 0]) (by simp [results, Tryz.results13, go_sem, b0, b1, b2, b3]; try rfl) rfl ?_
    rw [HS2.out]
    have hs4 : ∀ j, ¬ j = w.heap.size + 1 → (set4 Ws (w.heap.size + 1) (.slice A11 n11 c11) (.slice A12 n12 c12) (.int .i64 x.g.nn) (.int .i64 x.g.ne)).heap[j]? = Ws.heap[j]? := fun j hj => set4_heap _ _ _ _ _ _ _ hj
    exact ⟨_, _, _, rfl, ((FO.out.below KDs.out).move fun j hj _ => hs4 j (by (try simp only at hj); omega)).mono fun j hj _ => by (try simp only at hj ⊢); omega, ((FG.out.below KDs.out).move fun j hj _ => hs4 j (by (try simp only at hj); omega)).mono fun j hj _ => by (try simp only at hj ⊢); omega, set4_below (K9.out.trans (KDs.out.mono K9.out.size)) (by omega) _ _ _ _⟩
  have HCUT := @Lib.hid _ @CUT
  clear CUT AR
  refine wp_region_tr (fun _ => True) (.take 0 (.take 1 (.take 3 (.two 2 (.two 4 (.take 5 (.take 6 (.take 7 (.take 8 (.step 9 (.take 10 (.step 11 (.take 12 .nil)))))))) 9 (.step 4 (.take 5 (.take 6 (.take 7 (.take 8 (.take 10 (.step 11 (.take 12 .nil))))))))) 9 (.step 2 (.step 4 (.take 5 (.take 6 (.take 7 (.take 8 (.take 10 (.step 11 (.take 12 .nil))))))))))))) (by kernel_rfl) (by kernel_rfl) (fun hS => ?_)
  have HK0 := Lib.hid hS
  clear hS
  have KD := Lib.hid (Below.refl w1.heap.size w1).drew
  revert HK0 KD
  generalize w1.drew = Z0
  intro HK0 KD
  repeat (refine tr_take (v := ?_) (by simp only [opT, opS, opZ]; rfl) (Or.inl ⟨by rfl, fun W hW => ?_⟩) HK0.out ?_; rotate_left; (have hc := fun b o hb => hW.cell b o trivial hb; clear hW; go_simp; with_reducible rfl); simp only [Act.put, putT, putZ, putS])
  have KE0 := Lib.hid KD.out
  have sZ0 := KD.out.size
  clear KD c0 c1 c2 c3' c4' cf b0 b1 b2 b3 bf
  refine tr_two (by simp only [opT, opS, opZ]; rfl) ?_ (by simp only [opT, opS, opZ]; rfl) (Hid.out ?_)
  ·
   skip
   go_wp2_with fail
   refine (rnew_calls Z0).mono ?_
   rintro e Z1 ⟨rfl, hb⟩
   have s1 := hb.size
   have KE1 := thn KE0 hb
   have HK1 := Lib.hid (HK0.out.below hb)
   clear hb
   go_wp2_with fail
   refine tr_on HK1.out ?_
   refine tr_two (by simp only [opT, opS, opZ]; rfl) ?_ (by simp only [opT, opS, opZ]; rfl) (Hid.out ?_)
   ·
    skip
    go_wp2_with fail
    refine (rfind_calls sd true GraphD.zero HC.out HL3.out HU.out HND.out sd.calls.length Z1 (fun _ => False) PathD.start _ (.slice none 0 0) (.slice none 0 0) (.slice none 0 0) (.slice none 0 0) (.slice none 0 0) (HA.out.below KE1.out) (Gr.zero _ _ _ _) (Row.nil _ _ _) (Gr.zero _ _ _ _) (OrdP.start HC.out) (Nat.le_add_right _ _)).mono ?_
    rintro e Z2 ⟨A10, n10, c10, A11, n11, c11, A12, n12, c12, gn, ge, b, rfl, hfr, hb⟩
    rw [HGE.out] at hfr
    have s2 := hb.size
    have sK2 := KE1.out.size
    have FR2 := Lib.hid (hfr.mono (S' := fun j => w1.heap.size ≤ j) fun j hj hl => (hj.resolve_left fun h => h) |> fun h => by (try simp only at h ⊢); omega)
    have KE2 := thn KE1 hb
    have HK2 := Lib.hid (HK1.out.below hb)
    clear hb hfr
    go_wp2_with fail
    refine tr_on HK2.out ?_
    repeat (refine tr_take (v := ?_) (by simp only [opT, opS, opZ]; rfl) (Or.inl ⟨by rfl, fun W hW => ?_⟩) HK2.out ?_; rotate_left; (clear hW; go_simp; with_reducible rfl); simp only [Act.put, putT, putZ, putS])
    refine tr_step (by simp only [opT, opS, opZ]; rfl) ?_
    obtain ⟨Z3, hV⟩ : ∃ V, V = Z2.alloc (.cells #[.slice none 0 0, .slice none 0 0, .int .i64 0, .int .i64 0] 31) := ⟨_, rfl⟩
    have hb : Below Z2.heap.size Z2 Z3 := by rw [hV]; exact (Below.refl _ Z2).alloc (Nat.le_refl _) _
    have s3 : Z2.heap.size < Z3.heap.size := by rw [hV]; simp
    have GT3 := Lib.hid (show Box4 Z3 Z2.heap.size _ _ _ _ from by rw [hV]; exact Box4.made Z2 31 (.slice none 0 0) (.slice none 0 0) (.int .i64 0) (.int .i64 0))
    have KE3 := thn KE2 hb
    have HK3 := Lib.hid (HK2.out.below hb)
    go_wp2_with fail
    rw [← hV]
    clear hV
    obtain ⟨bT, hbT⟩ : ∃ b, b = Z2.heap.size := ⟨_, rfl⟩
    rw [← hbT] at GT3
    simp only [← hbT]
    have vbT : w1.heap.size ≤ bT := by have := KE2.out.size; omega
    have lbT3 : bT < Z3.heap.size := by omega
    have FE := Lib.hid ((FR2.out.mono (S' := fun j => w1.heap.size ≤ j ∧ ¬ j = bT) fun j hj hl => by (try simp only at hj ⊢); omega).below hb)
    clear hbT hb
    refine tr_on HK3.out ?_
    repeat (refine tr_take (v := ?_) (by simp only [opT, opS, opZ]; rfl) (Or.inl ⟨by rfl, fun W hW => ?_⟩) HK3.out ?_; rotate_left; (clear hW; go_simp; with_reducible rfl); simp only [Act.put, putT, putZ, putS])
    obtain ⟨h0, h1, h2, h3, hf⟩ := GT3.out
    refine tr_step (by simp only [opT, opS, opZ]; rfl) ?_
    obtain ⟨Y, hY⟩ : ∃ Y, Y = set4 Z3 bT (.slice A11 n11 c11) (.slice A12 n12 c12) (.int .i64 gn) (.int .i64 ge) := ⟨_, rfl⟩
    have HKY := Lib.hid (show Kept w1 (fun _ => True) Y from by rw [hY]; exact HK3.out.set4 (.inl (by omega)) _ _ _ _)
    have zY : Z3.heap.size ≤ Y.heap.size := by rw [hY, set4_size]; exact Nat.le_refl _
    have GY := Lib.hid (show Box4 Y bT _ _ _ _ from by rw [hY]; exact GT3.out.set (.slice A11 n11 c11) (.slice A12 n12 c12) (.int .i64 gn) (.int .i64 ge))
    have KY := Lib.hid (show Below w1.heap.size w1 Y from by rw [hY]; exact set4_below KE3.out (by omega) _ _ _ _)
    have FY := Lib.hid (FE.out.move (W' := Y) fun j hj _ => by rw [hY]; exact set4_heap _ _ _ _ _ _ _ hj.2)
    unfold set4 at hY
    go_wp2_with fail
    rw [← hY]
    clear hY h0 h1 h2 h3 hf FE
    refine tr_on HKY.out ?_
    repeat (refine tr_take (v := ?_) (by simp only [opT, opS, opZ]; rfl) (Or.inl ⟨by rfl, fun W hW => ?_⟩) HKY.out ?_; rotate_left; (clear hW; go_simp; with_reducible rfl); simp only [Act.put, putT, putZ, putS])
    refine tr_done ?_
    exact HCUT.out bT A10 n10 c10 A11 n11 c11 A12 n12 c12 gn ge b Y KY.out FY.out GY.out vbT (by omega)
   ·
    refine Lib.hid ?_
    obtain ⟨Z2, hV⟩ : ∃ V, V = Z1.alloc (.cells #[.slice none 0 0, .slice none 0 0, .int .i64 0, .int .i64 0] 31) := ⟨_, rfl⟩
    have hb : Below Z1.heap.size Z1 Z2 := by rw [hV]; exact (Below.refl _ Z1).alloc (Nat.le_refl _) _
    have s2 : Z1.heap.size < Z2.heap.size := by rw [hV]; simp
    have GT2 := Lib.hid (show Box4 Z2 Z1.heap.size _ _ _ _ from by rw [hV]; exact Box4.made Z1 31 (.slice none 0 0) (.slice none 0 0) (.int .i64 0) (.int .i64 0))
    have KE2 := thn KE1 hb
    have HK2 := Lib.hid (HK1.out.below hb)
    go_wp2_with fail
    rw [← hV]
    clear hV
    obtain ⟨bT, hbT⟩ : ∃ b, b = Z1.heap.size := ⟨_, rfl⟩
    rw [← hbT] at GT2
    simp only [← hbT]
    have vbT : w1.heap.size ≤ bT := by have := KE1.out.size; omega
    have lbT2 : bT < Z2.heap.size := by omega
    clear hbT hb
    refine tr_on HK2.out ?_
    refine tr_step (by simp only [opT, opS, opZ]; rfl) ?_
    go_wp2_with fail
    refine (rfind_calls sd true GraphD.zero HC.out HL3.out HU.out HND.out sd.calls.length Z2 (fun _ => False) PathD.start _ (.slice none 0 0) (.slice none 0 0) (.slice none 0 0) (.slice none 0 0) (.slice none 0 0) (HA.out.below KE2.out) (Gr.zero _ _ _ _) (Row.nil _ _ _) (Gr.zero _ _ _ _) (OrdP.start HC.out) (Nat.le_add_right _ _)).mono ?_
    rintro e Z3 ⟨A10, n10, c10, A11, n11, c11, A12, n12, c12, gn, ge, b, rfl, hfr, hb⟩
    rw [HGE.out] at hfr
    have s3 := hb.size
    have sK3 := KE2.out.size
    have FE := Lib.hid (hfr.mono (S' := fun j => w1.heap.size ≤ j ∧ ¬ j = bT) fun j hj hl => (hj.resolve_left fun h => h) |> fun h => by (try simp only at h ⊢); omega)
    have KE3 := thn KE2 hb
    have HK3 := Lib.hid (HK2.out.below hb)
    have GT3 := Lib.hid (GT2.out.keep (hb.block _ lbT2))
    have lbT3 : bT < Z3.heap.size := by have := hb.size; omega
    clear hb hfr
    go_wp2_with fail
    refine tr_on HK3.out ?_
    repeat (refine tr_take (v := ?_) (by simp only [opT, opS, opZ]; rfl) (Or.inl ⟨by rfl, fun W hW => ?_⟩) HK3.out ?_; rotate_left; (clear hW; go_simp; with_reducible rfl); simp only [Act.put, putT, putZ, putS])
    obtain ⟨h0, h1, h2, h3, hf⟩ := GT3.out
    refine tr_step (by simp only [opT, opS, opZ]; rfl) ?_
    obtain ⟨Y, hY⟩ : ∃ Y, Y = set4 Z3 bT (.slice A11 n11 c11) (.slice A12 n12 c12) (.int .i64 gn) (.int .i64 ge) := ⟨_, rfl⟩
    have HKY := Lib.hid (show Kept w1 (fun _ => True) Y from by rw [hY]; exact HK3.out.set4 (.inl (by omega)) _ _ _ _)
    have zY : Z3.heap.size ≤ Y.heap.size := by rw [hY, set4_size]; exact Nat.le_refl _
    have GY := Lib.hid (show Box4 Y bT _ _ _ _ from by rw [hY]; exact GT3.out.set (.slice A11 n11 c11) (.slice A12 n12 c12) (.int .i64 gn) (.int .i64 ge))
    have KY := Lib.hid (show Below w1.heap.size w1 Y from by rw [hY]; exact set4_below KE3.out (by omega) _ _ _ _)
    have FY := Lib.hid (FE.out.move (W' := Y) fun j hj _ => by rw [hY]; exact set4_heap _ _ _ _ _ _ _ hj.2)
    unfold set4 at hY
    go_wp2_with fail
    rw [← hY]
    clear hY h0 h1 h2 h3 hf FE
    refine tr_on HKY.out ?_
    repeat (refine tr_take (v := ?_) (by simp only [opT, opS, opZ]; rfl) (Or.inl ⟨by rfl, fun W hW => ?_⟩) HKY.out ?_; rotate_left; (clear hW; go_simp; with_reducible rfl); simp only [Act.put, putT, putZ, putS])
    refine tr_done ?_
    exact HCUT.out bT A10 n10 c10 A11 n11 c11 A12 n12 c12 gn ge b Y KY.out FY.out GY.out vbT (by omega)
  ·
   refine Lib.hid ?_
   obtain ⟨Z1, hV⟩ : ∃ V, V = Z0.alloc (.cells #[.slice none 0 0, .slice none 0 0, .int .i64 0, .int .i64 0] 31) := ⟨_, rfl⟩
   have hb : Below Z0.heap.size Z0 Z1 := by rw [hV]; exact (Below.refl _ Z0).alloc (Nat.le_refl _) _
   have s1 : Z0.heap.size < Z1.heap.size := by rw [hV]; simp
   have GT1 := Lib.hid (show Box4 Z1 Z0.heap.size _ _ _ _ from by rw [hV]; exact Box4.made Z0 31 (.slice none 0 0) (.slice none 0 0) (.int .i64 0) (.int .i64 0))
   have KE1 := thn KE0 hb
   have HK1 := Lib.hid (HK0.out.below hb)
   go_wp2_with fail
   rw [← hV]
   clear hV
   obtain ⟨bT, hbT⟩ : ∃ b, b = Z0.heap.size := ⟨_, rfl⟩
   rw [← hbT] at GT1
   simp only [← hbT]
   have vbT : w1.heap.size ≤ bT := by have := KE0.out.size; omega
   have lbT1 : bT < Z1.heap.size := by omega
   clear hbT hb
   refine tr_on HK1.out ?_
   refine tr_step (by simp only [opT, opS, opZ]; rfl) ?_
   go_wp2_with fail
   refine (rnew_calls Z1).mono ?_
   rintro e Z2 ⟨rfl, hb⟩
   have s2 := hb.size
   have KE2 := thn KE1 hb
   have HK2 := Lib.hid (HK1.out.below hb)
   have GT2 := Lib.hid (GT1.out.keep (hb.block _ lbT1))
   have lbT2 : bT < Z2.heap.size := by have := hb.size; omega
   clear hb
   go_wp2_with fail
   refine tr_on HK2.out ?_
   refine tr_step (by simp only [opT, opS, opZ]; rfl) ?_
   go_wp2_with fail
   refine (rfind_calls sd true GraphD.zero HC.out HL3.out HU.out HND.out sd.calls.length Z2 (fun _ => False) PathD.start _ (.slice none 0 0) (.slice none 0 0) (.slice none 0 0) (.slice none 0 0) (.slice none 0 0) (HA.out.below KE2.out) (Gr.zero _ _ _ _) (Row.nil _ _ _) (Gr.zero _ _ _ _) (OrdP.start HC.out) (Nat.le_add_right _ _)).mono ?_
   rintro e Z3 ⟨A10, n10, c10, A11, n11, c11, A12, n12, c12, gn, ge, b, rfl, hfr, hb⟩
   rw [HGE.out] at hfr
   have s3 := hb.size
   have sK3 := KE2.out.size
   have FE := Lib.hid (hfr.mono (S' := fun j => w1.heap.size ≤ j ∧ ¬ j = bT) fun j hj hl => (hj.resolve_left fun h => h) |> fun h => by (try simp only at h ⊢); omega)
   have KE3 := thn KE2 hb
   have HK3 := Lib.hid (HK2.out.below hb)
   have GT3 := Lib.hid (GT2.out.keep (hb.block _ lbT2))
   have lbT3 : bT < Z3.heap.size := by have := hb.size; omega
   clear hb hfr
   go_wp2_with fail
   refine tr_on HK3.out ?_
   repeat (refine tr_take (v := ?_) (by simp only [opT, opS, opZ]; rfl) (Or.inl ⟨by rfl, fun W hW => ?_⟩) HK3.out ?_; rotate_left; (clear hW; go_simp; with_reducible rfl); simp only [Act.put, putT, putZ, putS])
   obtain ⟨h0, h1, h2, h3, hf⟩ := GT3.out
   refine tr_step (by simp only [opT, opS, opZ]; rfl) ?_
   obtain ⟨Y, hY⟩ : ∃ Y, Y = set4 Z3 bT (.slice A11 n11 c11) (.slice A12 n12 c12) (.int .i64 gn) (.int .i64 ge) := ⟨_, rfl⟩
   have HKY := Lib.hid (show Kept w1 (fun _ => True) Y from by rw [hY]; exact HK3.out.set4 (.inl (by omega)) _ _ _ _)
   have zY : Z3.heap.size ≤ Y.heap.size := by rw [hY, set4_size]; exact Nat.le_refl _
   have GY := Lib.hid (show Box4 Y bT _ _ _ _ from by rw [hY]; exact GT3.out.set (.slice A11 n11 c11) (.slice A12 n12 c12) (.int .i64 gn) (.int .i64 ge))
   have KY := Lib.hid (show Below w1.heap.size w1 Y from by rw [hY]; exact set4_below KE3.out (by omega) _ _ _ _)
   have FY := Lib.hid (FE.out.move (W' := Y) fun j hj _ => by rw [hY]; exact set4_heap _ _ _ _ _ _ _ hj.2)
   unfold set4 at hY
   go_wp2_with fail
   rw [← hY]
   clear hY h0 h1 h2 h3 hf FE
   refine tr_on HKY.out ?_
   repeat (refine tr_take (v := ?_) (by simp only [opT, opS, opZ]; rfl) (Or.inl ⟨by rfl, fun W hW => ?_⟩) HKY.out ?_; rotate_left; (clear hW; go_simp; with_reducible rfl); simp only [Act.put, putT, putZ, putS])
   refine tr_done ?_
   exact HCUT.out bT A10 n10 c10 A11 n11 c11 A12 n12 c12 gn ge b Y KY.out FY.out GY.out vbT (by omega)
set_option maxRecDepth 100000 in
set_option maxHeartbeats 16000000 in
theorem rreach_calls (w : World) (S' : Nat → Prop) (c : CfgD) (v : Value) (l : List EvD) (g : GraphD) (vn ve : Value) (hg : Gr w S' g vn ve) (h : Row tEv w (fun _ => True) v l) (hlen : l.length ≤ 1000000) (hok : ∀ x ∈ l, okI x.th) : Calls Tryz.prog 15 #[c.val, v, .agg #[vn, ve, .int .i64 g.nn, .int .i64 g.ne]] w (ReachPost w (firstD (startD c l) (reachB g))) := by
 obtain ⟨A, cA, rfl⟩ := h.slice
 obtain ⟨⟨A3, c3, rfl⟩, ⟨A4, c4, rfl⟩⟩ := hg.slices
 have HGG := Lib.hid (hg.mono (S' := fun _ => True) fun _ _ _ => trivial)
 have HGE := Lib.hid (goodE_false g)
 have H := Lib.hid h
 have HOK := Lib.hid hok
 clear h hok hg
 unfold CfgD.val
 obtain ⟨W0, hW⟩ : ∃ W0, W0 = (w.alloc (.cells #[.int .i64 c.nodes, .int .i64 c.edges, .int .i64 c.props, .int .i64 c.ids, .int .i64 c.eids] 23)).alloc (.cells #[.slice A3 g.nodes.length c3, .slice A4 g.edges.length c4, .int .i64 g.nn, .int .i64 g.ne] 31) := ⟨_, rfl⟩
 have hb0 : Below w.heap.size w W0 := by rw [hW]; exact (by repeat (first | exact Below.refl _ _ | refine Below.alloc ?_ (by simp; try omega) _))
 have s0 : w.heap.size + 1 < W0.heap.size := by rw [hW]; simp
 have C0 := Lib.hid (show Box5 W0 w.heap.size _ _ _ _ _ from by rw [hW]; exact (Box5.made w 23 (.int .i64 c.nodes) (.int .i64 c.edges) (.int .i64 c.props) (.int .i64 c.ids) (.int .i64 c.eids)).keep (Below.heap_alloc _ _ _ (by simp)))
 have B0 := Lib.hid (show Box4 W0 (w.heap.size + 1) (.slice A3 g.nodes.length c3) (.slice A4 g.edges.length c4) (.int .i64 g.nn) (.int .i64 g.ne) from by
  rw [hW]
  have := Box4.made (w.alloc (.cells #[.int .i64 c.nodes, .int .i64 c.edges, .int .i64 c.props, .int .i64 c.ids, .int .i64 c.eids] 23)) 31 (.slice A3 g.nodes.length c3) (.slice A4 g.edges.length c4) (.int .i64 g.nn) (.int .i64 g.ne)
  rw [World.size_alloc] at this
  exact this)
 have K0 := Lib.hid hb0
 clear hb0
 obtain ⟨c0, c1, c2, c3', c4', cf⟩ := C0.out
 have l0 : w.heap.size < W0.heap.size := by omega
 go_enter Tryz.func15, Tryz.ntmps15
 go_wp2_with fail
 rw [← hW]
 clear hW
 refine (rcalls_calls W0 c _ l (H.out.below K0.out) hlen HOK.out).mono ?_
 rintro e w1 hp
 unfold RCallsPost at hp
 clear c0 c1 c2 c3' c4' cf
 cases hst : startD c l with
 | none =>
  rw [hst] at hp
  obtain ⟨rfl, hb⟩ := hp
  have HS := Lib.hid (firstD_none (good := reachB g) hst)
  have B9 := B0.out.keep (hb.block _ s0)
  have l1 : w.heap.size + 1 < w1.heap.size := by have := hb.size; omega
  have K1 := thn K0 hb
  clear hb hst
  obtain ⟨b0, b1, b2, b3, bf⟩ := B9
  go_wp2
  refine bodyPost_ret (v := .tuple #[.slice none 0 0, .int .i64 1]) (by simp [results, Tryz.results15, go_sem]; try rfl) rfl ?_
  rw [HS.out]
  exact ⟨_, rfl, Row.nil _ _ _, K1.out⟩
 | some sd =>
  rw [hst] at hp
  obtain ⟨vA, rfl, hA, hb⟩ := hp
  obtain ⟨hc0, hc2, hc3⟩ := startD_ok hst
  subst hc0
  have HS := Lib.hid hst
  have HC := Lib.hid hc2
  have HL3 := Lib.hid hc3
  have HU := Lib.hid (start_uniq hst)
  have HND := Lib.hid (start_need hst)
  obtain ⟨AA, cAA, rfl⟩ := hA.slice
  obtain ⟨N, hNN⟩ : ∃ N, N = sd.calls.length := ⟨_, rfl⟩
  rw [← hNN] at hA ⊢
  have HNN := Lib.hid hNN
  have HA := Lib.hid hA
  have B1' := Lib.hid (B0.out.keep (hb.block _ s0))
  have C1 := Lib.hid (C0.out.keep (hb.block _ l0))
  have K1 := thn K0 hb
  have s1 := hb.size
  have HB1 := Lib.hid hb
  clear hb hst hA hc2 hc3 B0 C0 hNN
  have l1 : w.heap.size + 1 < w1.heap.size := by omega
  have l1' : w.heap.size < w1.heap.size := by omega
  obtain ⟨c0, c1, c2, c3', c4', cf⟩ := C1.out
  obtain ⟨b0, b1, b2, b3, bf⟩ := B1'.out
  go_wp2_with fail
  rename_i Kr ar
  have AR := Lib.hid ar
  clear ar
  have CUT : ∀ {u0 u1 u2 u3 u4 u5 u6 u7 u8 u9 u13 u14 u15 u16 u17 u18 u19 u20 u21 u22 u23 u24 u25 u26 u27 u28 u29 u30 u31 u32 u33 : Value} (bT : Nat) (A10 : Option Addr) (n10 c10 : Nat) (A11 : Option Addr) (n11 c11 : Nat) (A12 : Option Addr) (n12 c12 : Nat) (gn ge : Int) (b : Bool) (Y : World), Below w1.heap.size w1 Y → FRes Y (fun j => w1.heap.size ≤ j ∧ ¬ j = bT) (findF sd (reachB g) sd.calls.length PathD.start) A10 n10 c10 A11 n11 c11 A12 n12 c12 gn ge b → Box4 Y bT (.slice A11 n11 c11) (.slice A12 n12 c12) (.int .i64 gn) (.int .i64 ge) → w1.heap.size ≤ bT → bT < Y.heap.size → Kr {tmps := (u0 :: u1 :: u2 :: u3 :: u4 :: u5 :: u6 :: u7 :: u8 :: u9 :: .slice A10 n10 c10 :: .pointer (some ⟨bT, 0, none⟩) :: .bool b :: u13 :: u14 :: u15 :: u16 :: u17 :: u18 :: u19 :: u20 :: u21 :: u22 :: u23 :: u24 :: u25 :: u26 :: u27 :: u28 :: u29 :: u30 :: u31 :: u32 :: u33 :: []).toArray, defers := []} Y := by
   intro u0 u1 u2 u3 u4 u5 u6 u7 u8 u9 u13 u14 u15 u16 u17 u18 u19 u20 u21 u22 u23 u24 u25 u26 u27 u28 u29 u30 u31 u32 u33 bT A10 n10 c10 A11 n11 c11 A12 n12 c12 gn ge b Y hky hfy hgy vbT lbY
   refine AR.out _ _ ?_
   clear AR Kr c0 c1 c2 c3' c4' cf b0 b1 b2 b3 bf
   have KY := Lib.hid hky
   have FY := Lib.hid hfy
   have GY := Lib.hid hgy
   clear hky hfy hgy
   have B9 := B1'.out.keep (KY.out.block _ l1)
   have K9 := Lib.hid (K1.out.trans (KY.out.mono K1.out.size))
   have l9 : w.heap.size + 1 < Y.heap.size := by have := KY.out.size; omega
   cases hres : findF sd (reachB g) sd.calls.length PathD.start with
   | none =>
    rw [hres] at FY
    have hbf : b = false := FY.out
    subst hbf
    have HS2 := Lib.hid (firstD_miss HS.out hres)
    clear hres
    obtain ⟨b0, b1, b2, b3, bf⟩ := B9
    go_wp2
    refine bodyPost_ret (v := .tuple #[.slice none 0 0, .int .i64 2]) (by simp [results, Tryz.results15, go_sem]; try rfl) rfl ?_
    rw [HS2.out]
    exact ⟨_, rfl, Row.nil _ _ _, K9.out⟩
   | some x =>
    rw [hres] at FY
    obtain ⟨hbt, hgn, hge, hfo, hfg⟩ := FY.out
    subst hbt hgn hge
    have HS2 := Lib.hid (firstD_hit HS.out hres)
    have FO := Lib.hid (hfo.mono (S' := fun j => w1.heap.size ≤ j) fun j hj _ => hj.1)
    have FG := Lib.hid (hfg.mono (S' := fun j => w1.heap.size ≤ j) fun j hj _ => hj.1)
    obtain ⟨h0, h1, h2, h3, hf⟩ := GY.out
    obtain ⟨b0, b1, b2, b3, bf⟩ := B9
    have lT : bT < Y.heap.size := by omega
   
    clear hfo hfg FY hres
    go_wp2
    refine bodyPost_ret (v := .tuple #[.slice A10 n10 c10, .int .i64 0]) (by simp [results, Tryz.results15, go_sem]; try rfl) rfl ?_
    rw [HS2.out]
    exact ⟨_, rfl, FO.out.mono fun j hj _ => by (try simp only at hj ⊢); omega, K9.out⟩
  have HCUT := @Lib.hid _ @CUT
  clear CUT AR
  refine wp_region_tr (fun _ => True) (.take 0 (.take 1 (.take 3 (.two 2 (.two 4 (.take 5 (.take 6 (.take 7 (.take 8 (.step 9 (.take 10 (.step 11 (.take 12 .nil)))))))) 9 (.step 4 (.take 5 (.take 6 (.take 7 (.take 8 (.take 10 (.step 11 (.take 12 .nil))))))))) 9 (.step 2 (.step 4 (.take 5 (.take 6 (.take 7 (.take 8 (.take 10 (.step 11 (.take 12 .nil))))))))))))) (by kernel_rfl) (by kernel_rfl) (fun hS => ?_)
  have HK0 := Lib.hid hS
  clear hS
  have KD := Lib.hid (Below.refl w1.heap.size w1).drew
  revert HK0 KD
  generalize w1.drew = Z0
  intro HK0 KD
  repeat (refine tr_take (v := ?_) (by simp only [opT, opS, opZ]; rfl) (Or.inl ⟨by rfl, fun W hW => ?_⟩) HK0.out ?_; rotate_left; (have hc := fun b o hb => hW.cell b o trivial hb; clear hW; go_simp; with_reducible rfl); simp only [Act.put, putT, putZ, putS])
  have KE0 := Lib.hid KD.out
  have sZ0 := KD.out.size
  clear KD c0 c1 c2 c3' c4' cf b0 b1 b2 b3 bf
  refine tr_two (by simp only [opT, opS, opZ]; rfl) ?_ (by simp only [opT, opS, opZ]; rfl) (Hid.out ?_)
  ·
   skip
   go_wp2_with fail
   refine (rnew_calls Z0).mono ?_
   rintro e Z1 ⟨rfl, hb⟩
   have s1 := hb.size
   have KE1 := thn KE0 hb
   have HK1 := Lib.hid (HK0.out.below hb)
   clear hb
   go_wp2_with fail
   refine tr_on HK1.out ?_
   refine tr_two (by simp only [opT, opS, opZ]; rfl) ?_ (by simp only [opT, opS, opZ]; rfl) (Hid.out ?_)
   ·
    skip
    go_wp2_with fail
    refine (rfind_calls sd false g HC.out HL3.out HU.out HND.out sd.calls.length Z1 (fun _ => False) PathD.start _ (.slice none 0 0) (.slice none 0 0) (.slice none 0 0) _ _ (HA.out.below KE1.out) (Gr.zero _ _ _ _) (Row.nil _ _ _) ((HGG.out.below K1.out).below KE1.out) (OrdP.start HC.out) (Nat.le_add_right _ _)).mono ?_
    rintro e Z2 ⟨A10, n10, c10, A11, n11, c11, A12, n12, c12, gn, ge, b, rfl, hfr, hb⟩
    rw [HGE.out] at hfr
    have s2 := hb.size
    have sK2 := KE1.out.size
    have FR2 := Lib.hid (hfr.mono (S' := fun j => w1.heap.size ≤ j) fun j hj hl => (hj.resolve_left fun h => h) |> fun h => by (try simp only at h ⊢); omega)
    have KE2 := thn KE1 hb
    have HK2 := Lib.hid (HK1.out.below hb)
    clear hb hfr
    go_wp2_with fail
    refine tr_on HK2.out ?_
    repeat (refine tr_take (v := ?_) (by simp only [opT, opS, opZ]; rfl) (Or.inl ⟨by rfl, fun W hW => ?_⟩) HK2.out ?_; rotate_left; (clear hW; go_simp; with_reducible rfl); simp only [Act.put, putT, putZ, putS])
    refine tr_step (by simp only [opT, opS, opZ]; rfl) ?_
    obtain ⟨Z3, hV⟩ : ∃ V, V = Z2.alloc (.cells #[.slice none 0 0, .slice none 0 0, .int .i64 0, .int .i64 0] 31) := ⟨_, rfl⟩
    have hb : Below Z2.heap.size Z2 Z3 := by rw [hV]; exact (Below.refl _ Z2).alloc (Nat.le_refl _) _
    have s3 : Z2.heap.size < Z3.heap.size := by rw [hV]; simp
    have GT3 := Lib.hid (show Box4 Z3 Z2.heap.size _ _ _ _ from by rw [hV]; exact Box4.made Z2 31 (.slice none 0 0) (.slice none 0 0) (.int .i64 0) (.int .i64 0))
    have KE3 := thn KE2 hb
    have HK3 := Lib.hid (HK2.out.below hb)
    go_wp2_with fail
    rw [← hV]
    clear hV
    obtain ⟨bT, hbT⟩ : ∃ b, b = Z2.heap.size := ⟨_, rfl⟩
    rw [← hbT] at GT3
    simp only [← hbT]
    have vbT : w1.heap.size ≤ bT := by have := KE2.out.size; omega
    have lbT3 : bT < Z3.heap.size := by omega
    have FE := Lib.hid ((FR2.out.mono (S' := fun j => w1.heap.size ≤ j ∧ ¬ j = bT) fun j hj hl => by (try simp only at hj ⊢); omega).below hb)
    clear hbT hb
    refine tr_on HK3.out ?_
    repeat (refine tr_take (v := ?_) (by simp only [opT, opS, opZ]; rfl) (Or.inl ⟨by rfl, fun W hW => ?_⟩) HK3.out ?_; rotate_left; (clear hW; go_simp; with_reducible rfl); simp only [Act.put, putT, putZ, putS])
    obtain ⟨h0, h1, h2, h3, hf⟩ := GT3.out
    refine tr_step (by simp only [opT, opS, opZ]; rfl) ?_
    obtain ⟨Y, hY⟩ : ∃ Y, Y = set4 Z3 bT (.slice A11 n11 c11) (.slice A12 n12 c12) (.int .i64 gn) (.int .i64 ge) := ⟨_, rfl⟩
    have HKY := Lib.hid (show Kept w1 (fun _ => True) Y from by rw [hY]; exact HK3.out.set4 (.inl (by omega)) _ _ _ _)
    have zY : Z3.heap.size ≤ Y.heap.size := by rw [hY, set4_size]; exact Nat.le_refl _
    have GY := Lib.hid (show Box4 Y bT _ _ _ _ from by rw [hY]; exact GT3.out.set (.slice A11 n11 c11) (.slice A12 n12 c12) (.int .i64 gn) (.int .i64 ge))
    have KY := Lib.hid (show Below w1.heap.size w1 Y from by rw [hY]; exact set4_below KE3.out (by omega) _ _ _ _)
    have FY := Lib.hid (FE.out.move (W' := Y) fun j hj _ => by rw [hY]; exact set4_heap _ _ _ _ _ _ _ hj.2)
    unfold set4 at hY
    go_wp2_with fail
    rw [← hY]
    clear hY h0 h1 h2 h3 hf FE
    refine tr_on HKY.out ?_
    repeat (refine tr_take (v := ?_) (by simp only [opT, opS, opZ]; rfl) (Or.inl ⟨by rfl, fun W hW => ?_⟩) HKY.out ?_; rotate_left; (clear hW; go_simp; with_reducible rfl); simp only [Act.put, putT, putZ, putS])
    refine tr_done ?_
    exact HCUT.out bT A10 n10 c10 A11 n11 c11 A12 n12 c12 gn ge b Y KY.out FY.out GY.out vbT (by omega)
   ·
    refine Lib.hid ?_
    obtain ⟨Z2, hV⟩ : ∃ V, V = Z1.alloc (.cells #[.slice none 0 0, .slice none 0 0, .int .i64 0, .int .i64 0] 31) := ⟨_, rfl⟩
    have hb : Below Z1.heap.size Z1 Z2 := by rw [hV]; exact (Below.refl _ Z1).alloc (Nat.le_refl _) _
    have s2 : Z1.heap.size < Z2.heap.size := by rw [hV]; simp
    have GT2 := Lib.hid (show Box4 Z2 Z1.heap.size _ _ _ _ from by rw [hV]; exact Box4.made Z1 31 (.slice none 0 0) (.slice none 0 0) (.int .i64 0) (.int .i64 0))
    have KE2 := thn KE1 hb
    have HK2 := Lib.hid (HK1.out.below hb)
    go_wp2_with fail
    rw [← hV]
    clear hV
    obtain ⟨bT, hbT⟩ : ∃ b, b = Z1.heap.size := ⟨_, rfl⟩
    rw [← hbT] at GT2
    simp only [← hbT]
    have vbT : w1.heap.size ≤ bT := by have := KE1.out.size; omega
    have lbT2 : bT < Z2.heap.size := by omega
    clear hbT hb
    refine tr_on HK2.out ?_
    refine tr_step (by simp only [opT, opS, opZ]; rfl) ?_
    go_wp2_with fail
    refine (rfind_calls sd false g HC.out HL3.out HU.out HND.out sd.calls.length Z2 (fun _ => False) PathD.start _ (.slice none 0 0) (.slice none 0 0) (.slice none 0 0) _ _ (HA.out.below KE2.out) (Gr.zero _ _ _ _) (Row.nil _ _ _) ((HGG.out.below K1.out).below KE2.out) (OrdP.start HC.out) (Nat.le_add_right _ _)).mono ?_
    rintro e Z3 ⟨A10, n10, c10, A11, n11, c11, A12, n12, c12, gn, ge, b, rfl, hfr, hb⟩
    rw [HGE.out] at hfr
    have s3 := hb.size
    have sK3 := KE2.out.size
    have FE := Lib.hid (hfr.mono (S' := fun j => w1.heap.size ≤ j ∧ ¬ j = bT) fun j hj hl => (hj.resolve_left fun h => h) |> fun h => by (try simp only at h ⊢); omega)
    have KE3 := thn KE2 hb
    have HK3 := Lib.hid (HK2.out.below hb)
    have GT3 := Lib.hid (GT2.out.keep (hb.block _ lbT2))
    have lbT3 : bT < Z3.heap.size := by have := hb.size; omega
    clear hb hfr
    go_wp2_with fail
    refine tr_on HK3.out ?_
    repeat (refine tr_take (v := ?_) (by simp only [opT, opS, opZ]; rfl) (Or.inl ⟨by rfl, fun W hW => ?_⟩) HK3.out ?_; rotate_left; (clear hW; go_simp; with_reducible rfl); simp only [Act.put, putT, putZ, putS])
    obtain ⟨h0, h1, h2, h3, hf⟩ := GT3.out
    refine tr_step (by simp only [opT, opS, opZ]; rfl) ?_
    obtain ⟨Y, hY⟩ : ∃ Y, Y = set4 Z3 bT (.slice A11 n11 c11) (.slice A12 n12 c12) (.int .i64 gn) (.int .i64 ge) := ⟨_, rfl⟩
    have HKY := Lib.hid (show Kept w1 (fun _ => True) Y from by rw [hY]; exact HK3.out.set4 (.inl (by omega)) _ _ _ _)
    have zY : Z3.heap.size ≤ Y.heap.size := by rw [hY, set4_size]; exact Nat.le_refl _
    have GY := Lib.hid (show Box4 Y bT _ _ _ _ from by rw [hY]; exact GT3.out.set (.slice A11 n11 c11) (.slice A12 n12 c12) (.int .i64 gn) (.int .i64 ge))
    have KY := Lib.hid (show Below w1.heap.size w1 Y from by rw [hY]; exact set4_below KE3.out (by omega) _ _ _ _)
    have FY := Lib.hid (FE.out.move (W' := Y) fun j hj _ => by rw [hY]; exact set4_heap _ _ _ _ _ _ _ hj.2)
    unfold set4 at hY
    go_wp2_with fail
    rw [← hY]
    clear hY h0 h1 h2 h3 hf FE
    refine tr_on HKY.out ?_
    repeat (refine tr_take (v := ?_) (by simp only [opT, opS, opZ]; rfl) (Or.inl ⟨by rfl, fun W hW => ?_⟩) HKY.out ?_; rotate_left; (clear hW; go_simp; with_reducible rfl); simp only [Act.put, putT, putZ, putS])
    refine tr_done ?_
    exact HCUT.out bT A10 n10 c10 A11 n11 c11 A12 n12 c12 gn ge b Y KY.out FY.out GY.out vbT (by omega)
  ·
   refine Lib.hid ?_
   obtain ⟨Z1, hV⟩ : ∃ V, V = Z0.alloc (.cells #[.slice none 0 0, .slice none 0 0, .int .i64 0, .int .i64 0] 31) := ⟨_, rfl⟩
   have hb : Below Z0.heap.size Z0 Z1 := by rw [hV]; exact (Below.refl _ Z0).alloc (Nat.le_refl _) _
   have s1 : Z0.heap.size < Z1.heap.size := by rw [hV]; simp
   have GT1 := Lib.hid (show Box4 Z1 Z0.heap.size _ _ _ _ from by rw [hV]; exact Box4.made Z0 31 (.slice none 0 0) (.slice none 0 0) (.int .i64 0) (.int .i64 0))
   have KE1 := thn KE0 hb
   have HK1 := Lib.hid (HK0.out.below hb)
   go_wp2_with fail
   rw [← hV]
   clear hV
   obtain ⟨bT, hbT⟩ : ∃ b, b = Z0.heap.size := ⟨_, rfl⟩
   rw [← hbT] at GT1
   simp only [← hbT]
   have vbT : w1.heap.size ≤ bT := by have := KE0.out.size; omega
   have lbT1 : bT < Z1.heap.size := by omega
   clear hbT hb
   refine tr_on HK1.out ?_
   refine tr_step (by simp only [opT, opS, opZ]; rfl) ?_
   go_wp2_with fail
   refine (rnew_calls Z1).mono ?_
   rintro e Z2 ⟨rfl, hb⟩
   have s2 := hb.size
   have KE2 := thn KE1 hb
   have HK2 := Lib.hid (HK1.out.below hb)
   have GT2 := Lib.hid (GT1.out.keep (hb.block _ lbT1))
   have lbT2 : bT < Z2.heap.size := by have := hb.size; omega
   clear hb
   go_wp2_with fail
   refine tr_on HK2.out ?_
   refine tr_step (by simp only [opT, opS, opZ]; rfl) ?_
   go_wp2_with fail
   refine (rfind_calls sd false g HC.out HL3.out HU.out HND.out sd.calls.length Z2 (fun _ => False) PathD.start _ (.slice none 0 0) (.slice none 0 0) (.slice none 0 0) _ _ (HA.out.below KE2.out) (Gr.zero _ _ _ _) (Row.nil _ _ _) ((HGG.out.below K1.out).below KE2.out) (OrdP.start HC.out) (Nat.le_add_right _ _)).mono ?_
   rintro e Z3 ⟨A10, n10, c10, A11, n11, c11, A12, n12, c12, gn, ge, b, rfl, hfr, hb⟩
   rw [HGE.out] at hfr
   have s3 := hb.size
   have sK3 := KE2.out.size
   have FE := Lib.hid (hfr.mono (S' := fun j => w1.heap.size ≤ j ∧ ¬ j = bT) fun j hj hl => (hj.resolve_left fun h => h) |> fun h => by (try simp only at h ⊢); omega)
   have KE3 := thn KE2 hb
   have HK3 := Lib.hid (HK2.out.below hb)
   have GT3 := Lib.hid (GT2.out.keep (hb.block _ lbT2))
   have lbT3 : bT < Z3.heap.size := by have := hb.size; omega
   clear hb hfr
   go_wp2_with fail
   refine tr_on HK3.out ?_
   repeat (refine tr_take (v := ?_) (by simp only [opT, opS, opZ]; rfl) (Or.inl ⟨by rfl, fun W hW => ?_⟩) HK3.out ?_; rotate_left; (clear hW; go_simp; with_reducible rfl); simp only [Act.put, putT, putZ, putS])
   obtain ⟨h0, h1, h2, h3, hf⟩ := GT3.out
   refine tr_step (by simp only [opT, opS, opZ]; rfl) ?_
   obtain ⟨Y, hY⟩ : ∃ Y, Y = set4 Z3 bT (.slice A11 n11 c11) (.slice A12 n12 c12) (.int .i64 gn) (.int .i64 ge) := ⟨_, rfl⟩
   have HKY := Lib.hid (show Kept w1 (fun _ => True) Y from by rw [hY]; exact HK3.out.set4 (.inl (by omega)) _ _ _ _)
   have zY : Z3.heap.size ≤ Y.heap.size := by rw [hY, set4_size]; exact Nat.le_refl _
   have GY := Lib.hid (show Box4 Y bT _ _ _ _ from by rw [hY]; exact GT3.out.set (.slice A11 n11 c11) (.slice A12 n12 c12) (.int .i64 gn) (.int .i64 ge))
   have KY := Lib.hid (show Below w1.heap.size w1 Y from by rw [hY]; exact set4_below KE3.out (by omega) _ _ _ _)
   have FY := Lib.hid (FE.out.move (W' := Y) fun j hj _ => by rw [hY]; exact set4_heap _ _ _ _ _ _ _ hj.2)
   unfold set4 at hY
   go_wp2_with fail
   rw [← hY]
   clear hY h0 h1 h2 h3 hf FE
   refine tr_on HKY.out ?_
   repeat (refine tr_take (v := ?_) (by simp only [opT, opS, opZ]; rfl) (Or.inl ⟨by rfl, fun W hW => ?_⟩) HKY.out ?_; rotate_left; (clear hW; go_simp; with_reducible rfl); simp only [Act.put, putT, putZ, putS])
   refine tr_done ?_
   exact HCUT.out bT A10 n10 c10 A11 n11 c11 A12 n12 c12 gn ge b Y KY.out FY.out GY.out vbT (by omega)
end Go.Proofs.YtpehmmdbjakkpaaGreat


