/- apply.own: a graph's own copy. -/
import Derived.Test.YtpehmmdbjakkpaaGreatBaseM
namespace Go.Proofs.YtpehmmdbjakkpaaGreat
open Go.RowKit
set_option linter.unusedSimpArgs false
set_option linter.unusedVariables false
set_option maxRecDepth 100000 in
set_option maxHeartbeats 8000000 in
theorem ownA_calls (w : World) (S : Nat → Prop) (g : GraphD) (vn ve : Value) (h : Gr w S g vn ve) (hs : g.small) : Calls Tryz.prog 59 #[.agg #[vn, ve, .int .i64 g.nn, .int .i64 g.ne]] w fun e w' => ∃ vn' ve' nvs, e = .returned (.agg #[vn', ve', .int .i64 g.nn, .int .i64 g.ne]) ∧ OwnG w' w.heap.size g vn' ve' nvs ∧ Below w.heap.size w w' := by
 obtain ⟨⟨nvs0, h1, h2⟩, h3⟩ := h
 have hsl := h1.slice
 rw [h2.len] at hsl
 obtain ⟨A1, c1, rfl⟩ := hsl
 obtain ⟨A2, c2, rfl⟩ := h3.slice
 have H1 := Lib.hid h1
 have H2 := Lib.hid h2
 have H3 := Lib.hid h3
 have HS := Lib.hid hs
 have HLEN := Lib.hid h2.len
 have hl0 := hs.1
 clear h1 h2 h3 hs
 go_enter Tryz.func59, Tryz.ntmps59
 go_wp2
 have hw0 : Below w.heap.size w ((w.alloc (.cells #[.slice A1 g.nodes.length c1, .slice A2 g.edges.length c2, .int .i64 g.nn, .int .i64 g.ne] 31)).alloc (.cells #[.slice none 0 0, .slice none 0 0, .int .i64 0, .int .i64 0] 31)) := ((Below.refl w.heap.size w).alloc (Nat.le_refl _) _).alloc (by simp) _
 have K0 := Lib.hid hw0.drew
 have HN0 := Lib.hid (H1.out.below hw0.drew)
 clear hw0
 refine wp_region_sched2 [(0, true), (1, true), (3, true), (4, true), (2, false), (6, true), (5, false)] 7 [(8, true), (9, false)] (Kept ((w.alloc (.cells #[.slice A1 g.nodes.length c1, .slice A2 g.edges.length c2, .int .i64 g.nn, .int .i64 g.ne] 31)).alloc (.cells #[.slice none 0 0, .slice none 0 0, .int .i64 0, .int .i64 0] 31)) (fun _ => True)) (fun _ => True) (by kernel_rfl) (by kernel_rfl) (by kernel_rfl) ?_
 have HK := Lib.hid (Kept.refl ((w.alloc (.cells #[.slice A1 g.nodes.length c1, .slice A2 g.edges.length c2, .int .i64 g.nn, .int .i64 g.ne] 31)).alloc (.cells #[.slice none 0 0, .slice none 0 0, .int .i64 0, .int .i64 0] 31)) (fun _ => True)).drew
 have hr0 : w.heap.size < w.heap.size + 1 + 1 := by omega
 repeat (refine sched2_take (v := ?_) (by simp only [opT, opS, opZ]; rfl) (Or.inl ⟨by rfl, fun W hW => ?_⟩) HK.out ?_; rotate_left; (have hc := fun b o hb => hW.cell b o trivial hb; clear hW; go_simp; with_reducible rfl); simp only [Act.put, putT, putZ, putS])
 refine sched2_step (by simp only [opT, opS, opZ]; rfl) ?_
 go_wp2_with fail
 refine (cloneNodes_calls _ S _ _ HN0.out (by rw [HLEN.out]; exact hl0)).mono ?_
 rintro e w1 ⟨v1, rfl, ho1, hb1⟩
 have hsl := ho1.slice
 rw [HLEN.out] at hsl
 obtain ⟨B1, d1, rfl⟩ := hsl
 have hs1 := hb1.size
 have K1 := Lib.hid (K0.out.trans (hb1.mono (by simp; omega)))
 have HK1 := Lib.hid (HK.out.below hb1)
 have P1 := Lib.hid ho1
 obtain ⟨hc1, hf1⟩ := bcell hb1
 clear ho1 hb1
 simp only [World.size_alloc, World.size_drew] at hs1 hc1 hf1
 have HE1 := Lib.hid (H3.out.below K1.out)
 go_wp2_with fail
 refine sched2_on HK1.out ?_
 repeat (refine sched2_take (v := ?_) (by simp only [opT, opS, opZ]; rfl) (Or.inl ⟨by rfl, fun W hW => ?_⟩) HK1.out ?_; rotate_left; (have hc := fun b o hb => hW.cell b o trivial hb; clear hW; go_simp; with_reducible rfl); simp only [Act.put, putT, putZ, putS])
 refine sched2_step (by simp only [opT, opS, opZ]; rfl) ?_
 go_wp2_with fail
 refine (cloneEdges_calls _ S _ _ HE1.out HS.out.2.1).mono ?_
 rintro e w2 ⟨v2, rfl, ho2, hb2⟩
 obtain ⟨B2, d2, rfl⟩ := ho2.slice
 have hs2 := hb2.size
 have K2 := Lib.hid (K1.out.trans (hb2.mono (by omega)))
 have HK2 := Lib.hid (HK1.out.below hb2)
 have PL1 := Lib.hid P1.out.lt
 have P1 := Lib.hid (P1.out.below hb2)
 have P2 := Lib.hid ho2
 have PE1 := Lib.hid ho2.1
 obtain ⟨hc2, hf2⟩ := bcell hb2
 clear ho2 hb2
 have g1 : w.heap.size < w1.heap.size := by omega
 have g1' : w.heap.size + 1 < w1.heap.size := by omega
 go_wp2_with fail
 refine sched2_on HK2.out ?_
 repeat (refine sched2_take (v := ?_) (by simp only [opT, opS, opZ]; rfl) (Or.inl ⟨by rfl, fun W hW => ?_⟩) HK2.out ?_; rotate_left; (have hc := fun b o hb => hW.cell b o trivial hb; clear hW; go_simp; with_reducible rfl); simp only [Act.put, putT, putZ, putS])
 refine sched2_go (by simp only [opT, opS, opZ]; rfl) ?_
 go_wp2_with fail
 refine sched_on trivial ?_
 repeat (refine sched_take (v := ?_) (by simp only [opT, opS, opZ]; rfl) (Or.inl ⟨by rfl, fun W hW => ?_⟩) trivial ?_; rotate_left; (skip; clear hW; go_simp; with_reducible rfl); simp only [Act.put, putT, putZ, putS])
 refine sched_step (by simp only [opT, opS, opZ]; rfl) ?_
 go_wp2_with fail
 refine sched_on trivial ?_
 refine sched_done ?_
 have g2 : w.heap.size < w2.heap.size := by omega
 have g2' : w.heap.size + 1 < w2.heap.size := by omega
 obtain ⟨W1, hW1⟩ : ∃ W1, W1 = (w2.setCell ⟨w.heap.size, 0, none⟩ (.slice B1 g.nodes.length d1)).setCell ⟨w.heap.size, 1, none⟩ (.slice B2 g.edges.length d2) := ⟨_, rfl⟩
 rw [← hW1]
 have e0 : w2.cell? ⟨w.heap.size, 0, none⟩ = some (.slice A1 g.nodes.length c1) := by rw [hc2 _ _ g1, hc1 _ _ hr0]; simp [go_sem]
 have e1 : w2.cell? ⟨w.heap.size, 1, none⟩ = some (.slice A2 g.edges.length c2) := by rw [hc2 _ _ g1, hc1 _ _ hr0]; simp [go_sem]
 have e2 : w2.cell? ⟨w.heap.size, 2, none⟩ = some (.int .i64 g.nn) := by rw [hc2 _ _ g1, hc1 _ _ hr0]; simp [go_sem]
 have e3 : w2.cell? ⟨w.heap.size, 3, none⟩ = some (.int .i64 g.ne) := by rw [hc2 _ _ g1, hc1 _ _ hr0]; simp [go_sem]
 have y0 : w2.cell? ⟨w.heap.size + 1, 0, none⟩ = some (.slice none 0 0) := by rw [hc2 _ _ g1', hc1 _ _ (by omega)]; simp [go_sem]
 have y1 : w2.cell? ⟨w.heap.size + 1, 1, none⟩ = some (.slice none 0 0) := by rw [hc2 _ _ g1', hc1 _ _ (by omega)]; simp [go_sem]
 have y2 : w2.cell? ⟨w.heap.size + 1, 2, none⟩ = some (.int .i64 0) := by rw [hc2 _ _ g1', hc1 _ _ (by omega)]; simp [go_sem]
 have y3 : w2.cell? ⟨w.heap.size + 1, 3, none⟩ = some (.int .i64 0) := by rw [hc2 _ _ g1', hc1 _ _ (by omega)]; simp [go_sem]
 have fy : ∀ o, w2.frozen? ⟨w.heap.size + 1, o, none⟩ = false := by intro o; rw [hf2 _ _ g1', hf1 _ _ (by omega)]; simp [go_sem]
 have b0 : W1.cell? ⟨w.heap.size, 0, none⟩ = some (.slice B1 g.nodes.length d1) := by rw [hW1, World.cell?_setCell_other _ _ _ _ (by simp), World.cell?_setCell_same _ _ _ e0]
 have b1 : W1.cell? ⟨w.heap.size, 1, none⟩ = some (.slice B2 g.edges.length d2) := by rw [hW1]; exact World.cell?_setCell_same _ _ _ (u := .slice A2 g.edges.length c2) (by rw [World.cell?_setCell_other _ _ _ _ (by simp), e1])
 have b2 : W1.cell? ⟨w.heap.size, 2, none⟩ = some (.int .i64 g.nn) := by rw [hW1, World.cell?_setCell_other _ _ _ _ (by simp), World.cell?_setCell_other _ _ _ _ (by simp), e2]
 have b3 : W1.cell? ⟨w.heap.size, 3, none⟩ = some (.int .i64 g.ne) := by rw [hW1, World.cell?_setCell_other _ _ _ _ (by simp), World.cell?_setCell_other _ _ _ _ (by simp), e3]
 have z0 : W1.cell? ⟨w.heap.size + 1, 0, none⟩ = some (.slice none 0 0) := by rw [hW1, World.cell?_setCell_other _ _ _ _ (by simp), World.cell?_setCell_other _ _ _ _ (by simp), y0]
 have z1 : W1.cell? ⟨w.heap.size + 1, 1, none⟩ = some (.slice none 0 0) := by rw [hW1, World.cell?_setCell_other _ _ _ _ (by simp), World.cell?_setCell_other _ _ _ _ (by simp), y1]
 have z2 : W1.cell? ⟨w.heap.size + 1, 2, none⟩ = some (.int .i64 0) := by rw [hW1, World.cell?_setCell_other _ _ _ _ (by simp), World.cell?_setCell_other _ _ _ _ (by simp), y2]
 have z3 : W1.cell? ⟨w.heap.size + 1, 3, none⟩ = some (.int .i64 0) := by rw [hW1, World.cell?_setCell_other _ _ _ _ (by simp), World.cell?_setCell_other _ _ _ _ (by simp), y3]
 have fz : ∀ o, W1.frozen? ⟨w.heap.size + 1, o, none⟩ = false := by intro o; rw [hW1, World.frozen?_setCell, World.frozen?_setCell, fy]
 have KW := Lib.hid (show Below w.heap.size w W1 by rw [hW1]; exact (K2.out.setCell (Nat.le_refl _) _).setCell (Nat.le_refl _) _)
 have sW : W1.heap.size = w2.heap.size := by rw [hW1]; simp
 have hsame : Same (fun k => w.heap.size + 1 + 1 ≤ k) w2 W1 := by
  rw [hW1]
  exact (Same.of_setCell _ _ _ (fun k hk => by simp only; omega)).trans (by simp) (Same.of_setCell _ _ _ (fun k hk => by simp only; omega))
 have P1 := Lib.hid ((P1.out.mono fun k hk _ => (by simpa using hk : w.heap.size + 1 + 1 ≤ k)).move hsame)
 have P2 := Lib.hid ((P2.out.mono fun k hk _ => (by omega : w.heap.size + 1 + 1 ≤ k)).move hsame)
 have NE := Lib.hid (show ∀ k, (Value.slice B1 g.nodes.length d1).ownBlock = some k → (Value.slice B2 g.edges.length d2).ownBlock ≠ some k from fun k hk e => by
  have h1 := PL1.out k hk
  have h2 := PE1.out k e
  omega)
 clear e0 e1 e2 e3 y0 y1 y2 y3 fy hsame hc1 hc2 hf1 hf2 hW1 HK HK1 HK2 K2 K1 K0 HN0 HE1 hr0
 have PG := Lib.hid (show ∀ k, (Value.slice B1 g.nodes.length d1).ownBlock = some k → w.heap.size + 1 + 1 ≤ k ∧ k < W1.heap.size from fun k hk => ⟨P1.out.1 k hk, P1.out.lt k hk⟩)
 have PE := Lib.hid (show ∀ k, (Value.slice B2 g.edges.length d2).ownBlock = some k → w.heap.size + 1 + 1 ≤ k ∧ k < W1.heap.size from fun k hk => ⟨P2.out.1 k hk, P2.out.lt k hk⟩)
 go_wp2
 go_loopw [16] (fun p wr => ∃ (j : Nat) (nvs : List NV), j ≤ g.nodes.length ∧ p = .int .i64 (j : Int) ∧ Hid (Own tNV 72 wr (fun k => w.heap.size + 1 + 1 ≤ k) (.slice B1 g.nodes.length d1) nvs) ∧ Hid (Mid wr W1.heap.size j nvs0 nvs g.nodes) ∧ Hid (Same (fun k => (Value.slice B1 g.nodes.length d1).ownBlock ≠ some k) W1 wr) ∧ Hid (Below w.heap.size w wr) ∧ W1.heap.size ≤ wr.heap.size) (fun p _ => g.nodes.length - (intOf p).toNat)
 case atStart => exact ⟨0, nvs0, Nat.zero_le _, rfl, P1, ⟨rfl, fun i v h _ => h, fun i v x h => by omega, fun i i' u v k h h' => by omega⟩, (fun _ _ _ => rfl), KW, Nat.le_refl _⟩
 case round =>
  obtain ⟨wa, rfl⟩ : ∃ wa, wa = wr := ⟨wr, rfl⟩
  obtain ⟨j, nvs, hj, rfl, ho, hmid, hsm, hb, hsz⟩ := hrel
  have hwr := hb.out.size
  have hbx : ∀ o, wa.cell? ⟨w.heap.size, o, none⟩ = W1.cell? ⟨w.heap.size, o, none⟩ := fun o => World.cell?_of_block (w := W1) (hsm.out w.heap.size (fun e => by have := PG.out _ e; omega) (by omega))
  by_cases hlt : j < g.nodes.length
  case neg =>
   obtain rfl : j = g.nodes.length := by omega
   have hbz : ∀ o, wa.cell? ⟨w.heap.size + 1, o, none⟩ = W1.cell? ⟨w.heap.size + 1, o, none⟩ := fun o => World.cell?_of_block (w := W1) (hsm.out (w.heap.size + 1) (fun e => by have := PG.out _ e; omega) (by omega))
   have hfz : ∀ o, wa.frozen? ⟨w.heap.size + 1, o, none⟩ = W1.frozen? ⟨w.heap.size + 1, o, none⟩ := fun o => World.frozen?_of_block (w := W1) (hsm.out (w.heap.size + 1) (fun e => by have := PG.out _ e; omega) (by omega))
   go_wp2
   have hS : Same (fun k => w.heap.size + 1 + 1 ≤ k) wa ((((wa.setCell ⟨w.heap.size + 1, 0, none⟩ (.slice B1 g.nodes.length d1)).setCell ⟨w.heap.size + 1, 1, none⟩ (.slice B2 g.edges.length d2)).setCell ⟨w.heap.size + 1, 2, none⟩ (.int .i64 g.nn)).setCell ⟨w.heap.size + 1, 3, none⟩ (.int .i64 g.ne)) := by
    intro k hk hl
    have hne : k ≠ w.heap.size + 1 := by omega
    rw [Below.heap_setCell _ ⟨w.heap.size + 1, 3, none⟩ _ k hne, Below.heap_setCell _ ⟨w.heap.size + 1, 2, none⟩ _ k hne, Below.heap_setCell _ ⟨w.heap.size + 1, 1, none⟩ _ k hne, Below.heap_setCell _ ⟨w.heap.size + 1, 0, none⟩ _ k hne]
   have hlx : ∀ (i : Nat) (u : NV), nvs[i]? = some u → i < g.nodes.length := fun i u hu => by have h1 := (List.getElem?_eq_some_iff.1 hu).1; have h2 := hmid.out.len; have h3 := HLEN.out; omega
   have hpo : ∀ (i : Nat) (u : NV) (k : Nat), nvs[i]? = some u → (Value.slice u.A u.n u.c).ownBlock = some k → W1.heap.size ≤ k := fun i u k hu hk => by
    obtain ⟨y, hy⟩ := getElem?_of_lt (hlx i u hu)
    exact (hmid.out.new i u y (hlx i u hu) hu hy).2.1 k hk
   refine bodyPost_ret (v := .agg #[.slice B1 g.nodes.length d1, .slice B2 g.edges.length d2, .int .i64 g.nn, .int .i64 g.ne]) (by simp [results, Tryz.results59, go_sem, hbz, z0, z1, z2, z3]; try rfl) rfl ⟨_, _, nvs, rfl, ⟨?_, ?_, ?_, ?_, ?_, ?_, ?_⟩, ?_⟩
   ·
    exact (ho.out.move hS).mono fun k hk _ => by omega
   ·
    have h1 : Own tEdge 75 wa (fun k => w.heap.size + 1 + 1 ≤ k) (.slice B2 g.edges.length d2) g.edges := P2.out.keepFlat (fun k hk => hsm.out k (fun e => NE.out k e hk) (PE.out k hk).2)
    exact (h1.move hS).mono fun k hk _ => by omega
   ·
    rw [hmid.out.len, HLEN.out]
   ·
    intro i v x hv hx
    obtain ⟨a1, a2⟩ := hmid.out.new i v x (hlx i v hv) hv hx
    exact ⟨a1, ((a2.mono fun k hk _ => (by omega : w.heap.size + 1 + 1 ≤ k)).move hS).mono fun k hk _ => by omega⟩
   ·
    exact NE.out
   ·
    intro i v k hv hk
    have h1 := hpo i v k hv hk
    exact ⟨fun e => by have := PG.out k e; omega, fun e => by have := PE.out k e; omega⟩
   ·
    intro i i' u v k hii hu hv hk
    exact hmid.out.pp i i' u v k hii (hlx i' v hv) hu hv hk
   ·
    exact (((hb.out.setCell (by simp only; omega) _).setCell (by simp only; omega) _).setCell (by simp only; omega) _).setCell (by simp only; omega) _
  obtain ⟨x, hx⟩ := getElem?_of_lt hlt
  have hjn : j < nvs.length := by rw [hmid.out.len, HLEN.out]; exact hlt
  obtain ⟨v, hv⟩ := getElem?_of_lt hjn
  have hv0 := hmid.out.old j v hv (Nat.le_refl _)
  obtain ⟨hid, hrp⟩ := H2.out.each j v x hv0 hx
  have hfew := HS.out.2.2 x (List.mem_of_getElem? hx)
  obtain ⟨gN, rfl, hgB, hgl⟩ := ho.out.head (by omega)
  obtain ⟨b', off', hA, _, _, x0, x1⟩ := ho.out.row.atNV hv
  injection hA with hA
  injection hA with h1 h2
  subst h1 h2
  rw [hid] at x0
  simp only [Nat.zero_add] at x0 x1
  obtain ⟨va, vc, hvs⟩ : ∃ a c, Value.slice v.A v.n v.c = .slice a x.ps.length c := hrp.slice
  have hvn : v.n = x.ps.length := by injection hvs
  rw [hvn] at x1 hrp
  clear hvs
  have HX := Lib.hid hx
  have HV := Lib.hid hv
  have HID := Lib.hid hid
  have HRP := Lib.hid ((hrp.below hb.out).below ((Below.refl wa.heap.size wa).alloc (Nat.le_refl _) (.cells #[.int .i64 x.id, .slice v.A x.ps.length v.c] 72)).drew)
  have HF0 := Lib.hid (ho.out.frozenC (j * 2 + 1))
  clear hx hv hv0 hid hrp
  have g3 : w.heap.size < wa.heap.size := by omega
  have g4 : w.heap.size < wa.heap.size + 1 := by omega
  have g5 : gN < wa.heap.size + 1 := by omega
  have g6 : wa.heap.size < wa.heap.size + 1 := by omega
  go_wp2_with fail
  have hne1 : ¬ w.heap.size = gN := by omega
  have hne2 : ¬ wa.heap.size = gN := by omega
  have f0 := HF0.out
  refine wp_region_sched [(0, true), (1, true), (2, true), (3, true), (4, true), (5, false), (6, true), (7, true), (8, false)] (Kept (wa.alloc (.cells #[.int .i64 x.id, .slice v.A x.ps.length v.c] 72)) (fun k => ¬ k = gN)) (by kernel_rfl) (by kernel_rfl) ?_
  have HK := Lib.hid (Kept.refl (wa.alloc (.cells #[.int .i64 x.id, .slice v.A x.ps.length v.c] 72)) (fun k => ¬ k = gN)).drew
  repeat (refine sched_take (v := ?_) (by simp only [opT, opS, opZ]; rfl) (Or.inl ⟨by rfl, fun W hW => ?_⟩) HK.out ?_; rotate_left; (have hc := fun b o hn hb => hW.cell b o hn hb; clear hW; go_simp; with_reducible rfl); simp only [Act.put, putT, putZ, putS])
  refine sched_step (by simp only [opT, opS, opZ]; rfl) ?_
  go_wp2_with fail
  refine (clonePairs_calls _ _ _ _ HRP.out hfew).mono ?_
  rintro e w3 ⟨v3, rfl, ho3, hb3⟩
  obtain ⟨B3, d3, rfl⟩ := ho3.slice
  have HO3 := Lib.hid ho3
  have HB3 := Lib.hid hb3
  have HK3 := Lib.hid (HK.out.below hb3)
  obtain ⟨hc3, hf3⟩ := bcell hb3
  have s3 := hb3.size
  clear ho3 hb3
  simp only [World.size_alloc, World.size_drew] at s3 hc3 hf3
  have g7 : gN < w3.heap.size := by omega
  go_wp2_with fail
  refine sched_on HK3.out ?_
  repeat (refine sched_take (v := ?_) (by simp only [opT, opS, opZ]; rfl) (Or.inl ⟨by rfl, fun W hW => ?_⟩) HK3.out ?_; rotate_left; (have hc := fun b o hn hb => hW.cell b o hn hb; clear hW; go_simp; with_reducible rfl); simp only [Act.put, putT, putZ, putS])
  refine sched_step (by simp only [opT, opS, opZ]; rfl) ?_
  go_wp2_with fail
  refine sched_on (HK3.out.setCell (.inr (by simp)) _) ?_
  refine sched_done ?_
  have K3 := Lib.hid ((((Below.refl wa.heap.size wa).alloc (Nat.le_refl _) (.cells #[.int .i64 x.id, .slice v.A x.ps.length v.c] 72)).drew).trans (HB3.out.mono (by simp)))
  have hsg : ∀ (S : Nat → Prop), (∀ k, S k → ¬ k = gN) → Same S wa (w3.setCell ⟨gN, j * 2 + 1, none⟩ (.slice B3 x.ps.length d3)) := fun S hS => (Same.of_below K3.out).trans K3.out.size (Same.of_setCell _ _ _ hS)
  have N1 := Lib.hid ((ho.out.below K3.out).setFlat (p := j) (i := 1) (y := v) (y' := ⟨v.id, B3, x.ps.length, d3⟩) (u := .slice B3 x.ps.length d3) HV.out (by decide) rfl)
  have N2 := Lib.hid (hmid.out.next HLEN.out (v' := ⟨v.id, B3, x.ps.length, d3⟩) HV.out HX.out HID.out hsz (((HO3.out.mono fun k hk _ => (by simp at hk; omega : wa.heap.size ≤ k)).keepFlat (w' := w3.setCell ⟨gN, j * 2 + 1, none⟩ (.slice B3 x.ps.length d3)) fun k hk => Below.heap_setCell _ _ _ k (by have := HO3.out.1 k hk; simp at this; simp only; omega))) (hsg _ fun k hk => by have := (PG.out gN rfl).2; omega))
  have N3 := Lib.hid (hsm.out.trans hsz (hsg (fun k => (Value.slice (some ⟨gN, 0, none⟩) g.nodes.length d1).ownBlock ≠ some k) fun k hk e => hk (by rw [e]; rfl)))
  have N4 := Lib.hid ((hb.out.trans (K3.out.mono hwr)).setCell (p := ⟨gN, j * 2 + 1, none⟩) (by simp only; omega) (.slice B3 x.ps.length d3))
  have N5 : W1.heap.size ≤ (w3.setCell ⟨gN, j * 2 + 1, none⟩ (.slice B3 x.ps.length d3)).heap.size := by rw [World.size_setCell]; omega
  clear hsg
  go_wp2
  go_roundw
  case rel => exact ⟨j + 1, nvs.set j ⟨v.id, B3, x.ps.length, d3⟩, by omega, by first | (go_num; done) | (go_num; omega), N1, N2, N3, N4, N5⟩
  case measure => simp [intOf]; omega

end Go.Proofs.YtpehmmdbjakkpaaGreat
