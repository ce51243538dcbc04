/- graph.Link. -/
import Derived.Test.YtpehmmdbjakkpaaAddG
namespace Go.Proofs.Ytpehmmdbjakkpaa
open Go.RowKit Go.Shelf
set_option linter.unusedSimpArgs false
set_option linter.unusedVariables false
def linkOf (c : CfgD) (g : GraphD) (a b : Int) : GraphD × Int × Int := if atOf g.nodes a < 0 ∨ atOf g.nodes b < 0 then (GraphD.zero, 0, 2) else if c.eids < g.ne then (GraphD.zero, 0, 4) else (⟨g.nodes, g.edges ++ [⟨g.ne, a, b⟩], g.nn, g.ne + 1⟩, g.ne, 0)
set_option maxRecDepth 20000 in
set_option maxHeartbeats 8000000 in
theorem link_calls (w : World) (S : Nat → Prop) (c : CfgD) (g : GraphD) (vn ve : Value) (a b : Int) (h : Gr w S g vn ve) (hs : g.small) (hids : c.eids ≤ 1000000) (hne : 0 ≤ g.ne) (hl : g.edges.length ≤ 100000) : Calls Try.prog 30 #[c.val, .agg #[vn, ve, .int .i64 g.nn, .int .i64 g.ne], .int .i64 a, .int .i64 b] w (Ret3 w (linkOf c g a b)) := by
  obtain ⟨⟨A1, c1, rfl⟩, ⟨A2, c2, rfl⟩⟩ := h.slices
  have H := Lib.hid h
  have HS := Lib.hid hs
  have hs1 := hs.1
  clear h hs
  unfold CfgD.val
  have hW0 : Below w.heap.size w (((w.alloc (.cells #[.int .i64 c.nodes, .int .i64 c.edges, .int .i64 c.props, .int .i64 c.ids, .int .i64 c.eids] 23)).alloc (.cells #[.slice A1 g.nodes.length c1, .slice A2 g.edges.length c2, .int .i64 g.nn, .int .i64 g.ne] 27)).alloc (.cells #[.slice none 0 0, .slice none 0 0, .int .i64 0, .int .i64 0] 27)) := (((Below.refl w.heap.size w).alloc (Nat.le_refl _) _).alloc (by simp) _).alloc (by simp; omega) _
  have KW := Lib.hid hW0
  have BX := Lib.hid ((Box4.made (w.alloc (.cells #[.int .i64 c.nodes, .int .i64 c.edges, .int .i64 c.props, .int .i64 c.ids, .int .i64 c.eids] 23)) 27 (.slice A1 g.nodes.length c1) (.slice A2 g.edges.length c2) (.int .i64 g.nn) (.int .i64 g.ne)).keep (W' := (((w.alloc (.cells #[.int .i64 c.nodes, .int .i64 c.edges, .int .i64 c.props, .int .i64 c.ids, .int .i64 c.eids] 23)).alloc (.cells #[.slice A1 g.nodes.length c1, .slice A2 g.edges.length c2, .int .i64 g.nn, .int .i64 g.ne] 27)).alloc (.cells #[.slice none 0 0, .slice none 0 0, .int .i64 0, .int .i64 0] 27))) (Below.heap_alloc _ _ _ (by simp)))
  have BR := Lib.hid (Box4.made ((w.alloc (.cells #[.int .i64 c.nodes, .int .i64 c.edges, .int .i64 c.props, .int .i64 c.ids, .int .i64 c.eids] 23)).alloc (.cells #[.slice A1 g.nodes.length c1, .slice A2 g.edges.length c2, .int .i64 g.nn, .int .i64 g.ne] 27)) 27 (.slice none 0 0) (.slice none 0 0) (.int .i64 0) (.int .i64 0))
  have H0 := Lib.hid (H.out.below hW0)
  have CE : (((w.alloc (.cells #[.int .i64 c.nodes, .int .i64 c.edges, .int .i64 c.props, .int .i64 c.ids, .int .i64 c.eids] 23)).alloc (.cells #[.slice A1 g.nodes.length c1, .slice A2 g.edges.length c2, .int .i64 g.nn, .int .i64 g.ne] 27)).alloc (.cells #[.slice none 0 0, .slice none 0 0, .int .i64 0, .int .i64 0] 27)).cell? ⟨w.heap.size, 4, none⟩ = some (.int .i64 c.eids) := by simp [go_sem]
  have CE := Lib.hid CE
  clear hW0
  simp only [World.size_alloc] at BX BR
  go_enter Try.func30, Try.ntmps30
  go_wp2_with fail
  refine (at_calls _ S g _ _ a H0.out hs1).mono ?_
  rintro e w1 ⟨rfl, hb1⟩
  have s1 := hb1.size
  have K1 := Lib.hid (KW.out.trans (hb1.mono (by simp; omega)))
  have BX1 := Lib.hid (BX.out.keep (hb1.block _ (by simp)))
  have BR1 := Lib.hid (BR.out.keep (hb1.block _ (by simp)))
  have CE1 := Lib.hid ((hb1.cell (p := ⟨w.heap.size, 4, none⟩) (by simp; omega)).trans CE.out)
  have H1 := Lib.hid (H0.out.below hb1)
  clear hb1 BX BR KW CE H0
  simp only [World.size_alloc] at s1
  have g1 : w.heap.size < w1.heap.size := by omega
  have g2 : w.heap.size + 1 < w1.heap.size := by omega
  have g3 : w.heap.size + 1 + 1 < w1.heap.size := by omega
  by_cases ha : atOf g.nodes a < 0
  · have HE := Lib.hid (show linkOf c g a b = (GraphD.zero, 0, 2) by unfold linkOf; rw [if_pos (.inl ha)])
    have hd : decide (atOf g.nodes a < 0) = true := decide_eq_true ha
    clear ha
    generalize atOf g.nodes a = p at *
    obtain ⟨y0, y1, y2, y3, yf⟩ := BR1.out
    go_wp2
    refine bodyPost_ret (v := .tuple #[.agg #[.slice none 0 0, .slice none 0 0, .int .i64 0, .int .i64 0], .int .i64 0, .int .i64 2]) (by simp [results, Try.results30, go_sem, y0, y1, y2, y3]; try rfl) rfl ?_
    rw [HE.out]
    exact ⟨_, _, rfl, Gr.zero _ _ _ _, set4_below K1.out (by omega) _ _ _ _⟩

  obtain ⟨x0, x1, x2, x3, xf⟩ := BX1.out
  have hd : decide (atOf g.nodes a < 0) = false := decide_eq_false ha
  have HNA := Lib.hid ha
  clear ha
  go_wp2_with fail
  refine (at_calls _ S g _ _ b H1.out hs1).mono ?_
  rintro e w2 ⟨rfl, hb2⟩
  have s2 := hb2.size
  have K2 := Lib.hid (K1.out.trans (hb2.mono (by omega)))
  have BX2 := Lib.hid (BX1.out.keep (hb2.block _ g2))
  have BR2 := Lib.hid (BR1.out.keep (hb2.block _ g3))
  have CE2 := Lib.hid ((hb2.cell (p := ⟨w.heap.size, 4, none⟩) g1).trans CE1.out)
  have H2 := Lib.hid (H1.out.below hb2)
  have g3' : w.heap.size + 1 + 1 < w2.heap.size := by omega
  clear hb2 BX1 BR1 CE1 H1 K1 x0 x1 x2 x3 xf g1 g2 g3 s1
  have g1 : w.heap.size < w2.heap.size := by omega
  have g2 : w.heap.size + 1 < w2.heap.size := by omega
  have g3 : w.heap.size + 1 + 1 < w2.heap.size := g3'
  by_cases hb : atOf g.nodes b < 0
  · have HE := Lib.hid (show linkOf c g a b = (GraphD.zero, 0, 2) by unfold linkOf; rw [if_pos (.inr hb)])
    have hd2 : decide (atOf g.nodes b < 0) = true := decide_eq_true hb
    clear hb
    obtain ⟨y0, y1, y2, y3, yf⟩ := BR2.out
    go_wp2
    refine bodyPost_ret (v := .tuple #[.agg #[.slice none 0 0, .slice none 0 0, .int .i64 0, .int .i64 0], .int .i64 0, .int .i64 2]) (by simp [results, Try.results30, go_sem, y0, y1, y2, y3]; try rfl) rfl ?_
    rw [HE.out]
    exact ⟨_, _, rfl, Gr.zero _ _ _ _, set4_below K2.out (by omega) _ _ _ _⟩

  have hd2 : decide (atOf g.nodes b < 0) = false := decide_eq_false hb
  obtain ⟨x0, x1, x2, x3, xf⟩ := BX2.out
  have ce := CE2.out
  by_cases hc : c.eids < g.ne
  · have HE := Lib.hid (show linkOf c g a b = (GraphD.zero, 0, 4) by unfold linkOf; rw [if_neg (by have := HNA.out; omega), if_pos hc])
    clear hb
    obtain ⟨y0, y1, y2, y3, yf⟩ := BR2.out
    go_wp2
    refine bodyPost_ret (v := .tuple #[.agg #[.slice none 0 0, .slice none 0 0, .int .i64 0, .int .i64 0], .int .i64 0, .int .i64 4]) (by simp [results, Try.results30, go_sem, y0, y1, y2, y3]; try rfl) rfl ?_
    rw [HE.out]
    exact ⟨_, _, rfl, Gr.zero _ _ _ _, set4_below K2.out (by omega) _ _ _ _⟩

  have HE := Lib.hid (show linkOf c g a b = (⟨g.nodes, g.edges ++ [⟨g.ne, a, b⟩], g.nn, g.ne + 1⟩, g.ne, 0) by unfold linkOf; rw [if_neg (by have := HNA.out; omega), if_neg hc])
  clear hb
  go_wp2_with fail
  refine (own_calls _ S g _ _ H2.out HS.out).mono ?_
  rintro e w3 ⟨vn1, ve1, nvs, rfl, ho1, hb1⟩
  obtain ⟨⟨B1, d1, rfl⟩, ⟨B2, d2, rfl⟩⟩ := ho1.gr.slices
  have s3 := hb1.size
  have K3 := Lib.hid (K2.out.trans (hb1.mono (by omega)))
  have BX3 := Lib.hid (BX2.out.keep (hb1.block _ g2))
  have BR3 := Lib.hid (BR2.out.keep (hb1.block _ g3))
  have HO1 := Lib.hid ho1
  clear hb1 ho1 BX2 BR2 K2 x0 x1 x2 x3 xf ce
  have g4 : w.heap.size + 1 < w3.heap.size := by omega
  have g5 : w.heap.size + 1 + 1 < w3.heap.size := by omega
  obtain ⟨x0, x1, x2, x3, xf⟩ := BX3.out
  go_wp2_with (at_builtin; refine wpList_own_appendS (ty := tEdge) (w := w) (S := fun k => w2.heap.size ≤ k) (Sy := fun _ => False) (v := .slice B2 g.edges.length d2) (xs := g.edges) (x := ⟨g.ne, a, b⟩) rfl _ _ 25 40 24 _ rfl elemEdges rfl ?hown rfl (by simp) rfl ?hB ?hge ?hSn ?hbytes ?hlen (fun _ h => h.elim) ?_)
  case hown => exact HO1.out.edges.keepFlat (fun k hk => set4_heap w3 (w.heap.size + 1) _ _ _ _ k (by have := HO1.out.edges.1 k hk; omega))
  case hB => exact set4_below K3.out (by omega) _ _ _ _
  case hge => exact fun k hk => by have := HO1.out.edges.1 k hk; omega
  case hSn => intro k hk; simp at hk; omega
  case hbytes => omega
  case hlen => unfold maxLen; omega
  intro v2 w4 ho2 hb2 hge2 hg2
  have hsl := ho2.slice
  have hl2 : (g.edges ++ [(⟨g.ne, a, b⟩ : EdgeD)]).length = g.edges.length + 1 := by rw [List.length_append]; rfl
  rw [hl2] at hsl
  clear hl2
  obtain ⟨B3, d3, rfl⟩ := hsl
  have hne2 : ∀ k, k < w2.heap.size → some k ≠ (Value.slice B2 g.edges.length d2).ownBlock := fun k hk e => by have := HO1.out.edges.1 k e.symm; omega
  have BX4 := Lib.hid ((BX3.out.set (.slice B1 g.nodes.length d1) (.slice B2 g.edges.length d2) (.int .i64 g.nn) (.int .i64 g.ne)).keep (hg2.block (w.heap.size + 1) (by simp; omega) (hne2 _ (by omega))))
  have BR4 := Lib.hid ((BR3.out.other4 (b' := w.heap.size + 1) (by omega) (.slice B1 g.nodes.length d1) (.slice B2 g.edges.length d2) (.int .i64 g.nn) (.int .i64 g.ne)).keep (hg2.block (w.heap.size + 1 + 1) (by simp; omega) (hne2 _ (by omega))))
  have RS := Lib.hid (HO1.out.restE (w' := w4) (fun k hB hnk hlt => (hg2.block k (by simp; omega) (fun e => hnk e.symm)).trans (set4_heap w3 (w.heap.size + 1) _ _ _ _ k (by omega))))
  have HO2 := Lib.hid ho2
  have HB2 := Lib.hid hb2
  have s4 := hg2.size
  simp only [World.size_setCell] at s4
  clear ho2 hb2 hge2 hg2 hne2 x0 x1 x2 x3 xf BX3 BR3
  obtain ⟨e0, e1, e2, e3, ef⟩ := BX4.out
  obtain ⟨y0, y1, y2, y3, yf⟩ := BR4.out
  go_wp2
  have hSm : Same (fun k => w2.heap.size ≤ k) w4 (set4 ((w4.setCell ⟨w.heap.size + 1, 1, none⟩ (.slice B3 (g.edges.length + 1) d3)).setCell ⟨w.heap.size + 1, 3, none⟩ (.int .i64 (g.ne + 1))) (w.heap.size + 1 + 1) (.slice B1 g.nodes.length d1) (.slice B3 (g.edges.length + 1) d3) (.int .i64 g.nn) (.int .i64 (g.ne + 1))) := fun k hk _ => by
    have h1 : k ≠ w.heap.size + 1 := by omega
    rw [set4_heap _ _ _ _ _ _ k (by omega), Below.heap_setCell _ ⟨w.heap.size + 1, 3, none⟩ _ k h1, Below.heap_setCell _ ⟨w.heap.size + 1, 1, none⟩ _ k h1]
  refine bodyPost_ret (v := .tuple #[.agg #[.slice B1 g.nodes.length d1, .slice B3 (g.edges.length + 1) d3, .int .i64 g.nn, .int .i64 (g.ne + 1)], .int .i64 g.ne, .int .i64 0]) (by simp [results, Try.results30, go_sem, e0, e1, e2, e3, y0, y1, y2, y3]; try rfl) rfl ?_
  rw [HE.out]
  refine ⟨_, _, rfl, Gr.mono (S := fun k => w2.heap.size ≤ k) (Gr.move (w := w4) ⟨⟨nvs, RS.out.2.row, RS.out.1⟩, HO2.out.row⟩ hSm) (fun k hk _ => by omega), ?_⟩
  exact set4_below ((HB2.out.setCell (p := ⟨w.heap.size + 1, 1, none⟩) (by simp only; omega) _).setCell (p := ⟨w.heap.size + 1, 3, none⟩) (by simp only; omega) _) (by omega) _ _ _ _
end Go.Proofs.Ytpehmmdbjakkpaa
