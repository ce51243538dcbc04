/- The reference's Add and Link. The reference's Link. -/
import Derived.Test.YtpehmmdbjakkpaaGreatCopyG
import Derived.Test.YtpehmmdbjakkpaaGreatAddM
namespace Go.Proofs.YtpehmmdbjakkpaaGreat
open Go.RowKit Go.Shelf
set_option linter.unusedSimpArgs false
set_option linter.unusedVariables false
/-- A graph of the reference's own: nodes and edges in blocks of their own; the properties anywhere else. -/
structure RefG (w : World) (B : Nat) (g : GraphD) (vn ve : Value) (nvs : List NV) : Prop where
 nodes : Own tNV 72 w (fun k => B ≤ k) vn nvs
 edges : Own tEdge 75 w (fun k => B ≤ k) ve g.edges
 pairs : NVs w (fun j => B ≤ j ∧ vn.ownBlock ≠ some j ∧ ve.ownBlock ≠ some j) nvs g.nodes
 ne : ∀ j, ve.ownBlock = some j → vn.ownBlock ≠ some j
theorem RefG.gr {w : World} {B : Nat} {g : GraphD} {vn ve : Value} {nvs : List NV} (h : RefG w B g vn ve nvs) : Gr w (fun k => B ≤ k) g vn ve := ⟨⟨nvs, h.nodes.row, h.pairs.mono fun _ h _ => h.1⟩, h.edges.row⟩
theorem RefG.move {w w' : World} {B : Nat} {g : GraphD} {vn ve : Value} {nvs : List NV} (h : RefG w B g vn ve nvs) (hs : Same (fun k => B ≤ k) w w') : RefG w' B g vn ve nvs := ⟨h.nodes.move hs, h.edges.move hs, h.pairs.move (hs.mono fun _ h => h.1), h.ne⟩
theorem RefG.below {w w' : World} {B : Nat} {g : GraphD} {vn ve : Value} {nvs : List NV} (h : RefG w B g vn ve nvs) (hb : Below w.heap.size w w') : RefG w' B g vn ve nvs := ⟨h.nodes.below hb, h.edges.below hb, h.pairs.below hb, h.ne⟩
theorem RefG.mono {w : World} {B B' : Nat} {g : GraphD} {vn ve : Value} {nvs : List NV} (h : RefG w B g vn ve nvs) (hB : B' ≤ B) : RefG w B' g vn ve nvs := ⟨h.nodes.mono fun k h _ => Nat.le_trans hB h, h.edges.mono fun k h _ => Nat.le_trans hB h, h.pairs.mono fun k h _ => ⟨Nat.le_trans hB h.1, h.2⟩, h.ne⟩
theorem CopyPost.refG {w w' : World} {g : GraphD} {e : Ending} (h : CopyPost w g e w') : ∃ vn' ve' nvs, e = .returned (.agg #[vn', ve', .int .i64 g.nn, .int .i64 g.ne]) ∧ RefG w' w.heap.size g vn' ve' nvs ∧ Below w.heap.size w w' := by
 obtain ⟨vn', ve', nvs, he, h1, h2, h3, h4, hb⟩ := h
 exact ⟨vn', ve', nvs, he, ⟨h1, h2, h3, h4⟩, hb⟩
theorem copyR_calls (w : World) (S : Nat → Prop) (g : GraphD) (vn ve : Value) (h : Gr w S g vn ve) (hs : g.small) : Calls Tryz.prog 74 #[.agg #[vn, ve, .int .i64 g.nn, .int .i64 g.ne]] w fun e w' => ∃ vn' ve' nvs, e = .returned (.agg #[vn', ve', .int .i64 g.nn, .int .i64 g.ne]) ∧ RefG w' w.heap.size g vn' ve' nvs ∧ Below w.heap.size w w' :=
 (copyO_calls w S g vn ve h hs).mono fun _ _ h => h.refG
theorem NVs.keepG {w w' : World} {S S' : Nat → Prop} {nvs : List NV} {xs : List NodeD} (h : NVs w S nvs xs) (hs : ∀ k, S k → k < w.heap.size → w'.heap[k]? = w.heap[k]? ∧ S' k) : NVs w' S' nvs xs := by
 have h1 : NVs w (fun k => S k ∧ k < w.heap.size) nvs xs := h.mono fun k hk hl => ⟨hk, hl⟩
 have h2 := h1.move (w' := w') (fun k hk hl => (hs k hk.1 hk.2).1)
 exact h2.mono fun k hk _ => (hs k hk.1 hk.2).2
set_option maxRecDepth 20000 in
set_option maxHeartbeats 8000000 in
theorem refAdd_calls (w : World) (S : Nat → Prop) (c : CfgD) (g : GraphD) (vn ve : Value) (h : Gr w S g vn ve) (hs : g.small) (hids : c.ids ≤ 1000000) (hnn : 0 ≤ g.nn) (hl : g.nodes.length ≤ 100000) : Calls Tryz.prog 65 #[c.val, .agg #[vn, ve, .int .i64 g.nn, .int .i64 g.ne]] w (Ret3 w (addOf c g)) := by
 obtain ⟨⟨A1, c1, rfl⟩, ⟨A2, c2, rfl⟩⟩ := h.slices
 have H := Lib.hid h
 have HS := Lib.hid hs
 clear h hs
 unfold CfgD.val
 by_cases hc : c.ids < g.nn
 ·
  have HE := Lib.hid (show addOf c g = (GraphD.zero, 0, 4) by unfold addOf; rw [if_pos hc])
  go_enter Tryz.func65, Tryz.ntmps65
  go_wp2
  refine bodyPost_ret (v := .tuple #[.agg #[.slice none 0 0, .slice none 0 0, .int .i64 0, .int .i64 0], .int .i64 0, .int .i64 4]) (by simp [results, Tryz.results65, go_sem]; try rfl) rfl ?_
  rw [HE.out]
  exact ⟨_, _, rfl, Gr.zero _ _ _ _, (by repeat (first | (with_reducible exact Below.refl _ _) | (with_reducible exact Below.refl _ _) | (with_reducible refine Below.drew ?_) | (with_reducible refine Below.alloc ?_ (by simp; try omega) _) | (with_reducible refine Below.setCell ?_ (by simp; try omega) _)))⟩
 have HE := Lib.hid (show addOf c g = (⟨g.nodes ++ [⟨g.nn, []⟩], g.edges, g.nn + 1, g.ne⟩, g.nn, 0) by unfold addOf; rw [if_neg hc])
 go_enter Tryz.func65, Tryz.ntmps65
 go_wp2_with fail
 obtain ⟨W0, hW⟩ : ∃ W0, W0 = (((w.alloc (.cells #[.int .i64 c.nodes, .int .i64 c.edges, .int .i64 c.props, .int .i64 c.ids, .int .i64 c.eids] 23)).alloc (.cells #[.slice A1 g.nodes.length c1, .slice A2 g.edges.length c2, .int .i64 g.nn, .int .i64 g.ne] 31)).alloc (.cells #[.slice none 0 0, .slice none 0 0, .int .i64 0, .int .i64 0] 31)) := ⟨_, rfl⟩
 have KW := Lib.hid (show Below w.heap.size w W0 by rw [hW]; exact (((Below.refl w.heap.size w).alloc (Nat.le_refl _) _).alloc (by simp) _).alloc (by simp; omega) _)
 have BX := Lib.hid (show Box4 W0 (w.heap.size + 1) (.slice A1 g.nodes.length c1) (.slice A2 g.edges.length c2) (.int .i64 g.nn) (.int .i64 g.ne) by
  rw [hW]
  have := (Box4.made (w.alloc (.cells #[.int .i64 c.nodes, .int .i64 c.edges, .int .i64 c.props, .int .i64 c.ids, .int .i64 c.eids] 23)) 31 (.slice A1 g.nodes.length c1) (.slice A2 g.edges.length c2) (.int .i64 g.nn) (.int .i64 g.ne))
  simp only [World.size_alloc] at this
  exact this.keep (by rw [Below.heap_alloc _ _ _ (by simp)]))
 have BR := Lib.hid (show Box4 W0 (w.heap.size + 1 + 1) (.slice none 0 0) (.slice none 0 0) (.int .i64 0) (.int .i64 0) by
  rw [hW]
  have := (Box4.made ((w.alloc (.cells #[.int .i64 c.nodes, .int .i64 c.edges, .int .i64 c.props, .int .i64 c.ids, .int .i64 c.eids] 23)).alloc (.cells #[.slice A1 g.nodes.length c1, .slice A2 g.edges.length c2, .int .i64 g.nn, .int .i64 g.ne] 31)) 31 (.slice none 0 0) (.slice none 0 0) (.int .i64 0) (.int .i64 0))
  simp only [World.size_alloc] at this
  exact this)
 have s0 : W0.heap.size = w.heap.size + 1 + 1 + 1 := by rw [hW]; simp
 rw [← hW]
 have HW := Lib.hid hW
 clear hW
 refine (copyR_calls W0 S g _ _ (H.out.below KW.out) HS.out).mono ?_
 rintro e w1 ⟨vn1, ve1, nvs, rfl, ho1, hb1⟩
 obtain ⟨⟨B1, d1, rfl⟩, ⟨B2, d2, rfl⟩⟩ := ho1.gr.slices
 have s1 := hb1.size
 have K1 := Lib.hid (KW.out.trans (hb1.mono KW.out.size))
 have BX1 := Lib.hid (BX.out.keep (hb1.block _ (by omega)))
 have BR1 := Lib.hid (BR.out.keep (hb1.block _ (by omega)))
 have HO1 := Lib.hid ho1
 clear hb1 ho1 BX BR KW
 have KB := Lib.hid (Below.heap1 w1 (.cells #[.slice B1 g.nodes.length d1, .slice B2 g.edges.length d2, .int .i64 g.nn, .int .i64 g.ne] 31))
 have BXB := Lib.hid (BX1.out.keep (KB.out.block (w.heap.size + 1) (by omega)))
 have BRB := Lib.hid (BR1.out.keep (KB.out.block (w.heap.size + 1 + 1) (by omega)))
 have BO := Lib.hid (Box4.made w1 31 (.slice B1 g.nodes.length d1) (.slice B2 g.edges.length d2) (.int .i64 g.nn) (.int .i64 g.ne))
 have HOB := Lib.hid (HO1.out.below KB.out)
 have HLN := Lib.hid (show nvs.length = g.nodes.length from HO1.out.pairs.len)
 have g0 : w.heap.size < w1.heap.size + 1 := by omega
 have g1 : w.heap.size + 1 < w1.heap.size + 1 := by omega
 have g2 : w.heap.size + 1 + 1 < w1.heap.size + 1 := by omega
 have g3 : w1.heap.size < w1.heap.size + 1 := by omega
 obtain ⟨x0, x1, x2, x3, xf⟩ := BXB.out
 obtain ⟨y0, y1, y2, y3, yf⟩ := BO.out
 go_wp2_with (at_builtin; refine wpList_own_appendS (ty := tNV) (w := w) (S := fun k => W0.heap.size ≤ k ∧ k ≠ w1.heap.size) (Sy := fun _ => False) (v := .slice B1 g.nodes.length d1) (xs := nvs) (x := ⟨g.nn, none, 0, 0⟩) rfl _ _ 28 72 32 _ rfl elemNodes rfl ?hown rfl (by simp) rfl ?hB ?hge ?hSn ?hbytes ?hlen (fun _ h => h.elim) ?_)
 case hown => exact HOB.out.nodes.clsFlat fun k e => ⟨HO1.out.nodes.1 k e, by have := HO1.out.nodes.lt k e; omega⟩
 case hB => exact K1.out.trans (KB.out.mono K1.out.size)
 case hge => exact fun k hk => by have := HO1.out.nodes.1 k hk; omega
 case hSn => intro k hk; simp at hk; show _ ≤ k ∧ k ≠ _; omega
 case hbytes => have := HLN.out; omega
 case hlen => have := HLN.out; unfold maxLen; omega
 intro v2 w2 ho2 hb2 hge2 hg2
 have hsl := ho2.slice
 have hl2 : (nvs ++ [(⟨g.nn, none, 0, 0⟩ : NV)]).length = g.nodes.length + 1 := by rw [List.length_append, HLN.out]; rfl
 rw [hl2] at hsl
 clear hl2
 obtain ⟨B3, d3, rfl⟩ := hsl
 have hN : ∀ k, (Value.slice B1 g.nodes.length d1).ownBlock = some k → W0.heap.size ≤ k ∧ k < w1.heap.size := fun k e => ⟨HO1.out.nodes.1 k e, HO1.out.nodes.lt k e⟩
 have hE : ∀ k, (Value.slice B2 g.edges.length d2).ownBlock = some k → W0.heap.size ≤ k ∧ k < w1.heap.size := fun k e => ⟨HO1.out.edges.1 k e, HO1.out.edges.lt k e⟩
 have s2 := hg2.size
 simp only [World.size_alloc] at s2
 have BX2 := Lib.hid (BXB.out.keep (hg2.block (w.heap.size + 1) (by simp; omega) (fun e => by have := hN _ e.symm; omega)))
 have BR2 := Lib.hid (BRB.out.keep (hg2.block (w.heap.size + 1 + 1) (by simp; omega) (fun e => by have := hN _ e.symm; omega)))
 have BO2 := Lib.hid (BO.out.keep (hg2.block w1.heap.size (by simp) (fun e => by have := hN _ e.symm; omega)))
 have HE2 := Lib.hid ((HOB.out.edges.keepFlat (w' := w2) fun k hk => hg2.block k (by simp; have := hE k hk; omega) (fun e => HO1.out.ne k hk e.symm)).clsFlat (S' := fun k => W0.heap.size ≤ k ∧ k ≠ w1.heap.size) fun k hk => by have := hE k hk; show _ ≤ k ∧ k ≠ _; omega)
 have HP2 := Lib.hid ((HO1.out.pairs.mono fun k hk hl => (⟨hk.1, hk.2.1, hl⟩ : W0.heap.size ≤ k ∧ (Value.slice B1 g.nodes.length d1).ownBlock ≠ some k ∧ k < w1.heap.size)).keepG (w' := w2) (S' := fun k => W0.heap.size ≤ k ∧ k ≠ w1.heap.size) (fun k hk hl => ⟨(hg2.block k (by simp; omega) (fun e => hk.2.1 e.symm)).trans (KB.out.block k hl), hk.1, by omega⟩))
 have HO2 := Lib.hid ho2
 have HB2 := Lib.hid hb2
 clear ho2 hb2 hge2 hg2 x0 x1 x2 x3 xf y0 y1 y2 y3 yf BX1 BR1 hN hE
 have g0 : w.heap.size < w2.heap.size := by omega
 have g1 : w.heap.size + 1 < w2.heap.size := by omega
 have g2 : w.heap.size + 1 + 1 < w2.heap.size := by omega
 have g3 : w1.heap.size < w2.heap.size := by omega
 have k1 : ¬ w1.heap.size = w.heap.size + 1 := by omega
 have k2 : ¬ w.heap.size + 1 = w1.heap.size := by omega
 have k3 : ¬ w1.heap.size = w.heap.size + 1 + 1 := by omega
 have k4 : ¬ w.heap.size + 1 + 1 = w1.heap.size := by omega
 obtain ⟨e0, e1, e2, e3, ef⟩ := BX2.out
 obtain ⟨y0, y1, y2, y3, yf⟩ := BR2.out
 obtain ⟨z0, z1, z2, z3, zf⟩ := BO2.out
 go_wp2_with fail
 have BOs := Lib.hid (((BO2.out.set0 (.slice B3 (g.nodes.length + 1) d3))).set2 (.int .i64 (g.nn + 1)))
 have BXs := Lib.hid ((BX2.out.other (b' := w1.heap.size) (by omega) 0 (.slice B3 (g.nodes.length + 1) d3)).other (b' := w1.heap.size) (by omega) 2 (.int .i64 (g.nn + 1)))
 have BRs := Lib.hid ((BR2.out.other (b' := w1.heap.size) (by omega) 0 (.slice B3 (g.nodes.length + 1) d3)).other (b' := w1.heap.size) (by omega) 2 (.int .i64 (g.nn + 1)))
 have hS2 : Same (fun k => k ≠ w1.heap.size) w2 ((w2.setCell ⟨w1.heap.size, 0, none⟩ (.slice B3 (g.nodes.length + 1) d3)).setCell ⟨w1.heap.size, 2, none⟩ (.int .i64 (g.nn + 1))) := fun k hk _ => by rw [Below.heap_setCell _ ⟨w1.heap.size, 2, none⟩ _ k hk, Below.heap_setCell _ ⟨w1.heap.size, 0, none⟩ _ k hk]
 have HS2 := Lib.hid hS2
 have HB3 := Lib.hid ((HB2.out.setCell (p := ⟨w1.heap.size, 0, none⟩) (by simp only; omega) (.slice B3 (g.nodes.length + 1) d3)).setCell (p := ⟨w1.heap.size, 2, none⟩) (by simp only; omega) (.int .i64 (g.nn + 1)))
 have s3 : ((w2.setCell ⟨w1.heap.size, 0, none⟩ (.slice B3 (g.nodes.length + 1) d3)).setCell ⟨w1.heap.size, 2, none⟩ (.int .i64 (g.nn + 1))).heap.size = w2.heap.size := by simp
 clear hS2 e0 e1 e2 e3 ef y0 y1 y2 y3 yf z0 z1 z2 z3 zf
 generalize hw3 : (w2.setCell ⟨w1.heap.size, 0, none⟩ (.slice B3 (g.nodes.length + 1) d3)).setCell ⟨w1.heap.size, 2, none⟩ (.int .i64 (g.nn + 1)) = w3 at *
 clear hw3
 have g0 : w.heap.size < w3.heap.size := by omega
 have g1 : w.heap.size + 1 < w3.heap.size := by omega
 have g2 : w.heap.size + 1 + 1 < w3.heap.size := by omega
 have g3 : w1.heap.size < w3.heap.size := by omega
 obtain ⟨e0, e1, e2, e3, ef⟩ := BXs.out
 obtain ⟨y0, y1, y2, y3, yf⟩ := BRs.out
 obtain ⟨z0, z1, z2, z3, zf⟩ := BOs.out
 refine wp_region_schedK (fun k => k ≠ w.heap.size + 1 + 1) [(0, true), (1, true), (2, true), (3, false), (4, true), (5, true)] (by kernel_rfl) (by kernel_rfl) (fun hS => ?_)
 have HK := Lib.hid hS
 clear hS
 repeat (refine sched_take (v := ?_) (by simp only [opT, opS, opZ]; rfl) (Or.inl ⟨by rfl, fun W hW => ?_⟩) HK.out ?_; rotate_left; (have hc := fun b o hn hb => hW.cell b o hn hb; clear hW; go_simp; with_reducible rfl); simp only [Act.put, putT, putZ, putS])
 refine sched_step (by simp only [opT, opS, opZ]; rfl) ?_
 go_wp2_with fail
 have HK4 := Lib.hid ((((HK.out.setCell (p := ⟨w.heap.size + 1 + 1, 0, none⟩) (.inr (by simp)) (.slice B3 (g.nodes.length + 1) d3)).setCell (p := ⟨w.heap.size + 1 + 1, 1, none⟩) (.inr (by simp)) (.slice B2 g.edges.length d2)).setCell (p := ⟨w.heap.size + 1 + 1, 2, none⟩) (.inr (by simp)) (.int .i64 (g.nn + 1))).setCell (p := ⟨w.heap.size + 1 + 1, 3, none⟩) (.inr (by simp)) (.int .i64 g.ne))
 refine sched_on HK4.out ?_
 repeat (refine sched_take (v := ?_) (by simp only [opT, opS, opZ]; rfl) (Or.inl ⟨by rfl, fun W hW => ?_⟩) HK4.out ?_; rotate_left; (have hc := fun b o hn hb => hW.cell b o hn hb; clear hW; go_simp; with_reducible rfl); simp only [Act.put, putT, putZ, putS])
 refine sched_done ?_
 clear HK HK4
 go_wp2
 refine bodyPost_ret (v := .tuple #[.agg #[.slice B3 (g.nodes.length + 1) d3, .slice B2 g.edges.length d2, .int .i64 (g.nn + 1), .int .i64 g.ne], .int .i64 g.nn, .int .i64 0]) (by simp [results, Tryz.results65, go_sem, e0, e1, e2, e3, y0, y1, y2, y3]; try rfl) rfl ?_
 rw [HE.out]
 have hSm : Same (fun k => W0.heap.size ≤ k ∧ k ≠ w1.heap.size) w2 (set4 w3 (w.heap.size + 1 + 1) (.slice B3 (g.nodes.length + 1) d3) (.slice B2 g.edges.length d2) (.int .i64 (g.nn + 1)) (.int .i64 g.ne)).drew := fun k hk hl => (set4_heap _ _ _ _ _ _ k (by omega)).trans (HS2.out k hk.2 hl)
 exact ⟨_, _, rfl, Gr.mono (S := fun k => W0.heap.size ≤ k ∧ k ≠ w1.heap.size) (Gr.move (w := w2) ⟨⟨nvs ++ [⟨g.nn, none, 0, 0⟩], HO2.out.row.mono (fun k hk _ => ⟨by have := hk.1; omega, hk.2⟩), HP2.out.snoc g.nn⟩, HE2.out.row⟩ hSm) (fun k hk _ => by have := hk.1; omega), (set4_below HB3.out (by omega) _ _ _ _).drew⟩
end Go.Proofs.YtpehmmdbjakkpaaGreat
namespace Go.Proofs.YtpehmmdbjakkpaaGreat
open Go.RowKit Go.Shelf
set_option linter.unusedSimpArgs false
set_option linter.unusedVariables false
set_option maxRecDepth 20000 in
set_option maxHeartbeats 8000000 in
theorem refLink_calls (w : World) (S : Nat → Prop) (c : CfgD) (g : GraphD) (vn ve : Value) (a b : Int) (h : Gr w S g vn ve) (hs : g.small) (hids : c.eids ≤ 1000000) (hne : 0 ≤ g.ne) (hl : g.edges.length ≤ 100000) : Calls Tryz.prog 66 #[c.val, .agg #[vn, ve, .int .i64 g.nn, .int .i64 g.ne], .int .i64 a, .int .i64 b] w (Ret3 w (linkOf c g a b)) := by
 obtain ⟨⟨A1, c1, rfl⟩, ⟨A2, c2, rfl⟩⟩ := h.slices
 have H := Lib.hid h
 have HS := Lib.hid hs
 have hs1 := hs.1
 clear h hs
 unfold CfgD.val
 have hW0 : Below w.heap.size w (((w.alloc (.cells #[.int .i64 c.nodes, .int .i64 c.edges, .int .i64 c.props, .int .i64 c.ids, .int .i64 c.eids] 23)).alloc (.cells #[.slice A1 g.nodes.length c1, .slice A2 g.edges.length c2, .int .i64 g.nn, .int .i64 g.ne] 31)).alloc (.cells #[.slice none 0 0, .slice none 0 0, .int .i64 0, .int .i64 0] 31)) := (((Below.refl w.heap.size w).alloc (Nat.le_refl _) _).alloc (by simp) _).alloc (by simp; omega) _
 have KW := Lib.hid hW0
 have BX := Lib.hid ((Box4.made (w.alloc (.cells #[.int .i64 c.nodes, .int .i64 c.edges, .int .i64 c.props, .int .i64 c.ids, .int .i64 c.eids] 23)) 31 (.slice A1 g.nodes.length c1) (.slice A2 g.edges.length c2) (.int .i64 g.nn) (.int .i64 g.ne)).keep (W' := (((w.alloc (.cells #[.int .i64 c.nodes, .int .i64 c.edges, .int .i64 c.props, .int .i64 c.ids, .int .i64 c.eids] 23)).alloc (.cells #[.slice A1 g.nodes.length c1, .slice A2 g.edges.length c2, .int .i64 g.nn, .int .i64 g.ne] 31)).alloc (.cells #[.slice none 0 0, .slice none 0 0, .int .i64 0, .int .i64 0] 31))) (Below.heap_alloc _ _ _ (by simp)))
 have BR := Lib.hid (Box4.made ((w.alloc (.cells #[.int .i64 c.nodes, .int .i64 c.edges, .int .i64 c.props, .int .i64 c.ids, .int .i64 c.eids] 23)).alloc (.cells #[.slice A1 g.nodes.length c1, .slice A2 g.edges.length c2, .int .i64 g.nn, .int .i64 g.ne] 31)) 31 (.slice none 0 0) (.slice none 0 0) (.int .i64 0) (.int .i64 0))
 have H0 := Lib.hid (H.out.below hW0)
 have CE : (((w.alloc (.cells #[.int .i64 c.nodes, .int .i64 c.edges, .int .i64 c.props, .int .i64 c.ids, .int .i64 c.eids] 23)).alloc (.cells #[.slice A1 g.nodes.length c1, .slice A2 g.edges.length c2, .int .i64 g.nn, .int .i64 g.ne] 31)).alloc (.cells #[.slice none 0 0, .slice none 0 0, .int .i64 0, .int .i64 0] 31)).cell? ⟨w.heap.size, 4, none⟩ = some (.int .i64 c.eids) := by simp [go_sem]
 have CE := Lib.hid CE
 clear hW0
 simp only [World.size_alloc] at BX BR
 go_enter Tryz.func66, Tryz.ntmps66
 go_wp2_with fail
 refine (refAt_calls _ S g _ _ a H0.out hs1).mono ?_
 rintro e w1 ⟨rfl, hb1⟩
 have s1 := hb1.size
 have K1 := Lib.hid (KW.out.trans (hb1.mono (by simp; omega)))
 have BX1 := Lib.hid (BX.out.keep (hb1.block _ (by simp)))
 have BR1 := Lib.hid (BR.out.keep (hb1.block _ (by simp)))
 have CE1 := Lib.hid ((hb1.cell (p := ⟨w.heap.size, 4, none⟩) (by simp; omega)).trans CE.out)
 have H1 := Lib.hid (H0.out.below hb1)
 clear hb1 BX BR KW CE H0
 simp only [World.size_alloc] at s1
 have g1 : w.heap.size < w1.heap.size := by omega
 have g2 : w.heap.size + 1 < w1.heap.size := by omega
 have g3 : w.heap.size + 1 + 1 < w1.heap.size := by omega
 by_cases ha : atOf g.nodes a < 0
 ·
  have HE := Lib.hid (show linkOf c g a b = (GraphD.zero, 0, 2) by unfold linkOf; rw [if_pos (.inl ha)])
  have hd : decide (atOf g.nodes a < 0) = true := decide_eq_true ha
  clear ha
  generalize atOf g.nodes a = p at *
  obtain ⟨y0, y1, y2, y3, yf⟩ := BR1.out
  go_wp2
  refine bodyPost_ret (v := .tuple #[.agg #[.slice none 0 0, .slice none 0 0, .int .i64 0, .int .i64 0], .int .i64 0, .int .i64 2]) (by simp [results, Tryz.results66, go_sem, y0, y1, y2, y3]; try rfl) rfl ?_
  rw [HE.out]
  exact ⟨_, _, rfl, Gr.zero _ _ _ _, set4_below K1.out (by omega) _ _ _ _⟩

 obtain ⟨x0, x1, x2, x3, xf⟩ := BX1.out
 have hd : decide (atOf g.nodes a < 0) = false := decide_eq_false ha
 have HNA := Lib.hid ha
 clear ha
 go_wp2_with fail
 refine (refAt_calls _ S g _ _ b H1.out hs1).mono ?_
 rintro e w2 ⟨rfl, hb2⟩
 have s2 := hb2.size
 have K2 := Lib.hid (K1.out.trans (hb2.mono (by omega)))
 have BX2 := Lib.hid (BX1.out.keep (hb2.block _ g2))
 have BR2 := Lib.hid (BR1.out.keep (hb2.block _ g3))
 have CE2 := Lib.hid ((hb2.cell (p := ⟨w.heap.size, 4, none⟩) g1).trans CE1.out)
 have H2 := Lib.hid (H1.out.below hb2)
 have g3' : w.heap.size + 1 + 1 < w2.heap.size := by omega
 clear hb2 BX1 BR1 CE1 H1 K1 x0 x1 x2 x3 xf g1 g2 g3 s1
 have g1 : w.heap.size < w2.heap.size := by omega
 have g2 : w.heap.size + 1 < w2.heap.size := by omega
 have g3 : w.heap.size + 1 + 1 < w2.heap.size := g3'
 by_cases hb : atOf g.nodes b < 0
 ·
  have HE := Lib.hid (show linkOf c g a b = (GraphD.zero, 0, 2) by unfold linkOf; rw [if_pos (.inr hb)])
  have hd2 : decide (atOf g.nodes b < 0) = true := decide_eq_true hb
  clear hb
  obtain ⟨y0, y1, y2, y3, yf⟩ := BR2.out
  go_wp2
  refine bodyPost_ret (v := .tuple #[.agg #[.slice none 0 0, .slice none 0 0, .int .i64 0, .int .i64 0], .int .i64 0, .int .i64 2]) (by simp [results, Tryz.results66, go_sem, y0, y1, y2, y3]; try rfl) rfl ?_
  rw [HE.out]
  exact ⟨_, _, rfl, Gr.zero _ _ _ _, set4_below K2.out (by omega) _ _ _ _⟩

 have hd2 : decide (atOf g.nodes b < 0) = false := decide_eq_false hb
 obtain ⟨x0, x1, x2, x3, xf⟩ := BX2.out
 have ce := CE2.out
 by_cases hc : c.eids < g.ne
 ·
  have HE := Lib.hid (show linkOf c g a b = (GraphD.zero, 0, 4) by unfold linkOf; rw [if_neg (by have := HNA.out; omega), if_pos hc])
  clear hb
  obtain ⟨y0, y1, y2, y3, yf⟩ := BR2.out
  go_wp2
  refine bodyPost_ret (v := .tuple #[.agg #[.slice none 0 0, .slice none 0 0, .int .i64 0, .int .i64 0], .int .i64 0, .int .i64 4]) (by simp [results, Tryz.results66, go_sem, y0, y1, y2, y3]; try rfl) rfl ?_
  rw [HE.out]
  exact ⟨_, _, rfl, Gr.zero _ _ _ _, set4_below K2.out (by omega) _ _ _ _⟩

 have HE := Lib.hid (show linkOf c g a b = (⟨g.nodes, g.edges ++ [⟨g.ne, a, b⟩], g.nn, g.ne + 1⟩, g.ne, 0) by unfold linkOf; rw [if_neg (by have := HNA.out; omega), if_neg hc])
 clear hb
 go_wp2_with fail
 refine (copyR_calls w2 S g _ _ H2.out HS.out).mono ?_
 rintro e w3 ⟨vn1, ve1, nvs, rfl, ho1, hb1⟩
 obtain ⟨⟨B1, d1, rfl⟩, ⟨B2, d2, rfl⟩⟩ := ho1.gr.slices
 have s1 := hb1.size
 have K3 := Lib.hid (K2.out.trans (hb1.mono K2.out.size))
 have BX3 := Lib.hid (BX2.out.keep (hb1.block _ (by omega)))
 have BR3 := Lib.hid (BR2.out.keep (hb1.block _ (by omega)))
 have HO1 := Lib.hid ho1
 clear hb1 ho1 BX2 BR2 K2 x0 x1 x2 x3 xf ce
 have KB := Lib.hid (Below.heap1 w3 (.cells #[.slice B1 g.nodes.length d1, .slice B2 g.edges.length d2, .int .i64 g.nn, .int .i64 g.ne] 31))
 have BXB := Lib.hid (BX3.out.keep (KB.out.block (w.heap.size + 1) (by omega)))
 have BRB := Lib.hid (BR3.out.keep (KB.out.block (w.heap.size + 1 + 1) (by omega)))
 have BO := Lib.hid (Box4.made w3 31 (.slice B1 g.nodes.length d1) (.slice B2 g.edges.length d2) (.int .i64 g.nn) (.int .i64 g.ne))
 have HOB := Lib.hid (HO1.out.below KB.out)
 have HLN := Lib.hid (show nvs.length = g.nodes.length from HO1.out.pairs.len)
 have g0 : w.heap.size < w3.heap.size + 1 := by omega
 have g1 : w.heap.size + 1 < w3.heap.size + 1 := by omega
 have g2 : w.heap.size + 1 + 1 < w3.heap.size + 1 := by omega
 have g3 : w3.heap.size < w3.heap.size + 1 := by omega
 obtain ⟨x0, x1, x2, x3, xf⟩ := BXB.out
 obtain ⟨y0, y1, y2, y3, yf⟩ := BO.out
 go_wp2_with (at_builtin; refine wpList_own_appendS (ty := tEdge) (w := w) (S := fun k => w2.heap.size ≤ k ∧ k ≠ w3.heap.size) (Sy := fun _ => False) (v := .slice B2 g.edges.length d2) (xs := g.edges) (x := ⟨g.ne, a, b⟩) rfl _ _ 29 75 24 _ rfl elemEdges rfl ?hown rfl (by simp) rfl ?hB ?hge ?hSn ?hbytes ?hlen (fun _ h => h.elim) ?_)
 case hown => exact HOB.out.edges.clsFlat fun k e => ⟨HO1.out.edges.1 k e, by have := HO1.out.edges.lt k e; omega⟩
 case hB => exact K3.out.trans (KB.out.mono K3.out.size)
 case hge => exact fun k hk => by have := HO1.out.edges.1 k hk; omega
 case hSn => intro k hk; simp at hk; show _ ≤ k ∧ k ≠ _; omega
 case hbytes => omega
 case hlen => unfold maxLen; omega
 intro v2 w4 ho2 hb2 hge2 hg2
 have hsl := ho2.slice
 have hl2 : (g.edges ++ [(⟨g.ne, a, b⟩ : EdgeD)]).length = g.edges.length + 1 := by rw [List.length_append]; rfl
 rw [hl2] at hsl
 clear hl2
 obtain ⟨B3, d3, rfl⟩ := hsl
 have hN : ∀ k, (Value.slice B1 g.nodes.length d1).ownBlock = some k → w2.heap.size ≤ k ∧ k < w3.heap.size := fun k e => ⟨HO1.out.nodes.1 k e, HO1.out.nodes.lt k e⟩
 have hE : ∀ k, (Value.slice B2 g.edges.length d2).ownBlock = some k → w2.heap.size ≤ k ∧ k < w3.heap.size := fun k e => ⟨HO1.out.edges.1 k e, HO1.out.edges.lt k e⟩
 have s2 := hg2.size
 simp only [World.size_alloc] at s2
 have BX4 := Lib.hid (BXB.out.keep (hg2.block (w.heap.size + 1) (by simp; omega) (fun e => by have := hE _ e.symm; omega)))
 have BR4 := Lib.hid (BRB.out.keep (hg2.block (w.heap.size + 1 + 1) (by simp; omega) (fun e => by have := hE _ e.symm; omega)))
 have BO2 := Lib.hid (BO.out.keep (hg2.block w3.heap.size (by simp) (fun e => by have := hE _ e.symm; omega)))
 have HE2 := Lib.hid ((HOB.out.nodes.keepFlat (w' := w4) fun k hk => hg2.block k (by simp; have := hN k hk; omega) (fun e => HO1.out.ne k e.symm hk)).clsFlat (S' := fun k => w2.heap.size ≤ k ∧ k ≠ w3.heap.size) fun k hk => by have := hN k hk; show _ ≤ k ∧ k ≠ _; omega)
 have HP2 := Lib.hid ((HO1.out.pairs.mono fun k hk hl => (⟨hk.1, hk.2.2, hl⟩ : w2.heap.size ≤ k ∧ (Value.slice B2 g.edges.length d2).ownBlock ≠ some k ∧ k < w3.heap.size)).keepG (w' := w4) (S' := fun k => w2.heap.size ≤ k ∧ k ≠ w3.heap.size) (fun k hk hl => ⟨(hg2.block k (by simp; omega) (fun e => hk.2.1 e.symm)).trans (KB.out.block k hl), hk.1, by omega⟩))
 have HO2 := Lib.hid ho2
 have HB2 := Lib.hid hb2
 clear ho2 hb2 hge2 hg2 x0 x1 x2 x3 xf y0 y1 y2 y3 yf BX3 BR3 hN hE
 have g0 : w.heap.size < w4.heap.size := by omega
 have g1 : w.heap.size + 1 < w4.heap.size := by omega
 have g2 : w.heap.size + 1 + 1 < w4.heap.size := by omega
 have g3 : w3.heap.size < w4.heap.size := by omega
 have k1 : ¬ w3.heap.size = w.heap.size + 1 := by omega
 have k2 : ¬ w.heap.size + 1 = w3.heap.size := by omega
 have k3 : ¬ w3.heap.size = w.heap.size + 1 + 1 := by omega
 have k4 : ¬ w.heap.size + 1 + 1 = w3.heap.size := by omega
 obtain ⟨e0, e1, e2, e3, ef⟩ := BX4.out
 obtain ⟨y0, y1, y2, y3, yf⟩ := BR4.out
 obtain ⟨z0, z1, z2, z3, zf⟩ := BO2.out
 go_wp2_with fail
 have BOs := Lib.hid (((BO2.out.set1 (.slice B3 (g.edges.length + 1) d3))).set3 (.int .i64 (g.ne + 1)))
 have BXs := Lib.hid ((BX4.out.other (b' := w3.heap.size) (by omega) 1 (.slice B3 (g.edges.length + 1) d3)).other (b' := w3.heap.size) (by omega) 3 (.int .i64 (g.ne + 1)))
 have BRs := Lib.hid ((BR4.out.other (b' := w3.heap.size) (by omega) 1 (.slice B3 (g.edges.length + 1) d3)).other (b' := w3.heap.size) (by omega) 3 (.int .i64 (g.ne + 1)))
 have hS2 : Same (fun k => k ≠ w3.heap.size) w4 ((w4.setCell ⟨w3.heap.size, 1, none⟩ (.slice B3 (g.edges.length + 1) d3)).setCell ⟨w3.heap.size, 3, none⟩ (.int .i64 (g.ne + 1))) := fun k hk _ => by rw [Below.heap_setCell _ ⟨w3.heap.size, 3, none⟩ _ k hk, Below.heap_setCell _ ⟨w3.heap.size, 1, none⟩ _ k hk]
 have HS2 := Lib.hid hS2
 have HB3 := Lib.hid ((HB2.out.setCell (p := ⟨w3.heap.size, 1, none⟩) (by simp only; omega) (.slice B3 (g.edges.length + 1) d3)).setCell (p := ⟨w3.heap.size, 3, none⟩) (by simp only; omega) (.int .i64 (g.ne + 1)))
 have s3 : ((w4.setCell ⟨w3.heap.size, 1, none⟩ (.slice B3 (g.edges.length + 1) d3)).setCell ⟨w3.heap.size, 3, none⟩ (.int .i64 (g.ne + 1))).heap.size = w4.heap.size := by simp
 clear hS2 e0 e1 e2 e3 ef y0 y1 y2 y3 yf z0 z1 z2 z3 zf
 generalize hw3 : (w4.setCell ⟨w3.heap.size, 1, none⟩ (.slice B3 (g.edges.length + 1) d3)).setCell ⟨w3.heap.size, 3, none⟩ (.int .i64 (g.ne + 1)) = w5 at *
 clear hw3
 have g0 : w.heap.size < w5.heap.size := by omega
 have g1 : w.heap.size + 1 < w5.heap.size := by omega
 have g2 : w.heap.size + 1 + 1 < w5.heap.size := by omega
 have g3 : w3.heap.size < w5.heap.size := by omega
 obtain ⟨e0, e1, e2, e3, ef⟩ := BXs.out
 obtain ⟨y0, y1, y2, y3, yf⟩ := BRs.out
 obtain ⟨z0, z1, z2, z3, zf⟩ := BOs.out
 refine wp_region_schedK (fun k => k ≠ w.heap.size + 1 + 1) [(0, true), (1, true), (2, true), (3, false), (4, true), (5, true)] (by kernel_rfl) (by kernel_rfl) (fun hS => ?_)
 have HK := Lib.hid hS
 clear hS
 repeat (refine sched_take (v := ?_) (by simp only [opT, opS, opZ]; rfl) (Or.inl ⟨by rfl, fun W hW => ?_⟩) HK.out ?_; rotate_left; (have hc := fun b o hn hb => hW.cell b o hn hb; clear hW; go_simp; with_reducible rfl); simp only [Act.put, putT, putZ, putS])
 refine sched_step (by simp only [opT, opS, opZ]; rfl) ?_
 go_wp2_with fail
 have HK4 := Lib.hid ((((HK.out.setCell (p := ⟨w.heap.size + 1 + 1, 0, none⟩) (.inr (by simp)) (.slice B1 g.nodes.length d1)).setCell (p := ⟨w.heap.size + 1 + 1, 1, none⟩) (.inr (by simp)) (.slice B3 (g.edges.length + 1) d3)).setCell (p := ⟨w.heap.size + 1 + 1, 2, none⟩) (.inr (by simp)) (.int .i64 g.nn)).setCell (p := ⟨w.heap.size + 1 + 1, 3, none⟩) (.inr (by simp)) (.int .i64 (g.ne + 1)))
 refine sched_on HK4.out ?_
 repeat (refine sched_take (v := ?_) (by simp only [opT, opS, opZ]; rfl) (Or.inl ⟨by rfl, fun W hW => ?_⟩) HK4.out ?_; rotate_left; (have hc := fun b o hn hb => hW.cell b o hn hb; clear hW; go_simp; with_reducible rfl); simp only [Act.put, putT, putZ, putS])
 refine sched_done ?_
 clear HK HK4
 go_wp2
 refine bodyPost_ret (v := .tuple #[.agg #[.slice B1 g.nodes.length d1, .slice B3 (g.edges.length + 1) d3, .int .i64 g.nn, .int .i64 (g.ne + 1)], .int .i64 g.ne, .int .i64 0]) (by simp [results, Tryz.results66, go_sem, e0, e1, e2, e3, y0, y1, y2, y3]; try rfl) rfl ?_
 rw [HE.out]
 have hSm : Same (fun k => w2.heap.size ≤ k ∧ k ≠ w3.heap.size) w4 (set4 w5 (w.heap.size + 1 + 1) (.slice B1 g.nodes.length d1) (.slice B3 (g.edges.length + 1) d3) (.int .i64 g.nn) (.int .i64 (g.ne + 1))).drew := fun k hk hl => (set4_heap _ _ _ _ _ _ k (by omega)).trans (HS2.out k hk.2 hl)
 exact ⟨_, _, rfl, Gr.mono (S := fun k => w2.heap.size ≤ k ∧ k ≠ w3.heap.size) (Gr.move (w := w4) ⟨⟨nvs, HE2.out.row, HP2.out⟩, HO2.out.row⟩ hSm) (fun k hk _ => by have := hk.1; omega), (set4_below HB3.out (by omega) _ _ _ _).drew⟩
end Go.Proofs.YtpehmmdbjakkpaaGreat

