/- graph.New, graph.Add, and the law's own configuration. graph.Link. graph.Near. -/
import Derived.Test.YtpehmmdbjakkpaaGreatBaseM
namespace Go.Proofs.YtpehmmdbjakkpaaGreat
open Go.RowKit Go.Shelf
set_option linter.unusedSimpArgs false
set_option linter.unusedVariables false
theorem new_calls (w : World) : Calls Tryz.prog 19 #[] w fun e w' => e = .returned (.agg #[.slice none 0 0, .slice none 0 0, .int .i64 1, .int .i64 1]) ∧ Below w.heap.size w w' := by
 go_enter Tryz.func19, Tryz.ntmps19
 go_wp2
 refine bodyPost_ret (v := .agg #[.slice none 0 0, .slice none 0 0, .int .i64 1, .int .i64 1]) (by simp [results, Tryz.results19, go_sem]; try rfl) rfl ⟨rfl, (Below.refl _ _).alloc (Nat.le_refl _) _⟩
def addOf (c : CfgD) (g : GraphD) : GraphD × Int × Int := if c.ids < g.nn then (GraphD.zero, 0, 4) else (⟨g.nodes ++ [⟨g.nn, []⟩], g.edges, g.nn + 1, g.ne⟩, g.nn, 0)
/-- A graph, a number and an error, handed back. -/
def Ret3 (w : World) (r : GraphD × Int × Int) (e : Ending) (w' : World) : Prop := ∃ vn ve, e = .returned (.tuple #[.agg #[vn, ve, .int .i64 r.1.nn, .int .i64 r.1.ne], .int .i64 r.2.1, .int .i64 r.2.2]) ∧ Gr w' (fun k => w.heap.size ≤ k) r.1 vn ve ∧ Below w.heap.size w w'
theorem NVs.snoc {w : World} {S : Nat → Prop} {nvs : List NV} {xs : List NodeD} (h : NVs w S nvs xs) (n : Int) : NVs w S (nvs ++ [⟨n, none, 0, 0⟩]) (xs ++ [⟨n, []⟩]) := by
 refine ⟨by simp [h.len], fun j v x hv hx => ?_⟩
 rw [List.getElem?_append] at hv hx
 rw [h.len] at hv
 split at hv
 ·
  rename_i hj
  rw [if_pos hj] at hx
  exact h.each j v x hv hx
 ·
  rename_i hj
  rw [if_neg hj] at hx
  rcases hn : j - xs.length with _ | m
  ·
   rw [hn] at hv hx
   simp at hv hx
   subst hv hx
   exact ⟨rfl, Row.nil _ _ _⟩
  ·
   rw [hn] at hv
   simp at hv
set_option maxRecDepth 20000 in
set_option maxHeartbeats 8000000 in
theorem add_calls (w : World) (S : Nat → Prop) (c : CfgD) (g : GraphD) (vn ve : Value) (h : Gr w S g vn ve) (hs : g.small) (hids : c.ids ≤ 1000000) (hnn : 0 ≤ g.nn) (hl : g.nodes.length ≤ 100000) : Calls Tryz.prog 87 #[c.val, .agg #[vn, ve, .int .i64 g.nn, .int .i64 g.ne]] w (Ret3 w (addOf c g)) := by
 obtain ⟨⟨A1, c1, rfl⟩, ⟨A2, c2, rfl⟩⟩ := h.slices
 have H := Lib.hid h
 have HS := Lib.hid hs
 clear h hs
 unfold CfgD.val
 by_cases hc : c.ids < g.nn
 ·
  have HE := Lib.hid (show addOf c g = (GraphD.zero, 0, 4) by unfold addOf; rw [if_pos hc])
  go_enter Tryz.func87, Tryz.ntmps87
  go_wp2
  refine bodyPost_ret (v := .tuple #[.agg #[.slice none 0 0, .slice none 0 0, .int .i64 0, .int .i64 0], .int .i64 0, .int .i64 4]) (by simp [results, Tryz.results87, go_sem]; try rfl) rfl ?_
  rw [HE.out]
  exact ⟨_, _, rfl, Gr.zero _ _ _ _, (by repeat (first | (with_reducible exact Below.refl _ _) | (with_reducible exact Below.refl _ _) | (with_reducible refine Below.drew ?_) | (with_reducible refine Below.alloc ?_ (by simp; try omega) _) | (with_reducible refine Below.setCell ?_ (by simp; try omega) _)))⟩
 have HE := Lib.hid (show addOf c g = (⟨g.nodes ++ [⟨g.nn, []⟩], g.edges, g.nn + 1, g.ne⟩, g.nn, 0) by unfold addOf; rw [if_neg hc])
 go_enter Tryz.func87, Tryz.ntmps87
 go_wp2_with fail
 have hW0 : Below w.heap.size w (((w.alloc (.cells #[.int .i64 c.nodes, .int .i64 c.edges, .int .i64 c.props, .int .i64 c.ids, .int .i64 c.eids] 23)).alloc (.cells #[.slice A1 g.nodes.length c1, .slice A2 g.edges.length c2, .int .i64 g.nn, .int .i64 g.ne] 31)).alloc (.cells #[.slice none 0 0, .slice none 0 0, .int .i64 0, .int .i64 0] 31)) := (((Below.refl w.heap.size w).alloc (Nat.le_refl _) _).alloc (by simp) _).alloc (by simp; omega) _
 have KW := Lib.hid hW0
 have BX := Lib.hid ((Box4.made (w.alloc (.cells #[.int .i64 c.nodes, .int .i64 c.edges, .int .i64 c.props, .int .i64 c.ids, .int .i64 c.eids] 23)) 31 (.slice A1 g.nodes.length c1) (.slice A2 g.edges.length c2) (.int .i64 g.nn) (.int .i64 g.ne)).keep (W' := ((w.alloc (.cells #[.int .i64 c.nodes, .int .i64 c.edges, .int .i64 c.props, .int .i64 c.ids, .int .i64 c.eids] 23)).alloc (.cells #[.slice A1 g.nodes.length c1, .slice A2 g.edges.length c2, .int .i64 g.nn, .int .i64 g.ne] 31)).alloc (.cells #[.slice none 0 0, .slice none 0 0, .int .i64 0, .int .i64 0] 31)) (Below.heap_alloc _ _ _ (by simp)))
 have BR := Lib.hid (Box4.made ((w.alloc (.cells #[.int .i64 c.nodes, .int .i64 c.edges, .int .i64 c.props, .int .i64 c.ids, .int .i64 c.eids] 23)).alloc (.cells #[.slice A1 g.nodes.length c1, .slice A2 g.edges.length c2, .int .i64 g.nn, .int .i64 g.ne] 31)) 31 (.slice none 0 0) (.slice none 0 0) (.int .i64 0) (.int .i64 0))
 have H0 := Lib.hid (H.out.below hW0)
 clear hW0
 simp only [World.size_alloc] at BX BR
 refine (own_calls _ S g _ _ H0.out HS.out).mono ?_
 rintro e w1 ⟨vn1, ve1, nvs, rfl, ho1, hb1⟩
 obtain ⟨⟨B1, d1, rfl⟩, ⟨B2, d2, rfl⟩⟩ := ho1.gr.slices
 have s1 := hb1.size
 have hlt := hb1.block
 have K1 := Lib.hid (KW.out.trans (hb1.mono (by simp; omega)))
 have BX1 := Lib.hid (BX.out.keep (hb1.block _ (by simp)))
 have BR1 := Lib.hid (BR.out.keep (hb1.block _ (by simp)))
 have HO1 := Lib.hid ho1
 clear hb1 ho1 hlt BX BR KW
 simp only [World.size_alloc] at s1 HO1
 have g1 : w.heap.size < w1.heap.size := by omega
 have g2 : w.heap.size + 1 < w1.heap.size := by omega
 have g3 : w.heap.size + 1 + 1 < w1.heap.size := by omega
 obtain ⟨x0, x1, x2, x3, xf⟩ := BX1.out
 have HLN := Lib.hid (show nvs.length = g.nodes.length from HO1.out.len)
 go_wp2_with (at_builtin; refine wpList_own_appendS (ty := tNV) (w := w) (S := fun k => w.heap.size + 1 + 1 + 1 ≤ k) (Sy := fun _ => False) (v := .slice B1 g.nodes.length d1) (xs := nvs) (x := ⟨g.nn, none, 0, 0⟩) rfl _ _ 28 72 32 _ rfl elemNodes rfl ?hown rfl (by simp) rfl ?hB ?hge ?hSn ?hbytes ?hlen (fun _ h => h.elim) ?_)
 case hown => exact HO1.out.nodes.keepFlat (fun k hk => set4_heap w1 (w.heap.size + 1) _ _ _ _ k (by have := HO1.out.nodes.1 k hk; omega))
 case hB => exact set4_below K1.out (by omega) _ _ _ _
 case hge => exact fun k hk => by have := HO1.out.nodes.1 k hk; omega
 case hSn => intro k hk; simp at hk; omega
 case hbytes => have := HLN.out; omega
 case hlen => have := HLN.out; unfold maxLen; omega
 intro v2 w2 ho2 hb2 hge2 hg2
 have hsl := ho2.slice
 have hl2 : (nvs ++ [(⟨g.nn, none, 0, 0⟩ : NV)]).length = g.nodes.length + 1 := by rw [List.length_append, HLN.out]; rfl
 rw [hl2] at hsl
 clear hl2
 obtain ⟨B3, d3, rfl⟩ := hsl
 have hne : ∀ k, k < w.heap.size + 1 + 1 + 1 → some k ≠ (Value.slice B1 g.nodes.length d1).ownBlock := fun k hk e => by have := HO1.out.nodes.1 k e.symm; omega
 have BX2 := Lib.hid ((BX1.out.set (.slice B1 g.nodes.length d1) (.slice B2 g.edges.length d2) (.int .i64 g.nn) (.int .i64 g.ne)).keep (hg2.block (w.heap.size + 1) (by simp; omega) (hne _ (by omega))))
 have BR2 := Lib.hid ((BR1.out.other4 (b' := w.heap.size + 1) (by omega) (.slice B1 g.nodes.length d1) (.slice B2 g.edges.length d2) (.int .i64 g.nn) (.int .i64 g.ne)).keep (hg2.block (w.heap.size + 1 + 1) (by simp; omega) (hne _ (by omega))))
 have RS := Lib.hid (HO1.out.restN (w' := w2) (fun k hB hnk hlt => (hg2.block k (by simp; omega) (fun e => hnk e.symm)).trans (set4_heap w1 (w.heap.size + 1) _ _ _ _ k (by omega))))
 have HO2 := Lib.hid ho2
 have HB2 := Lib.hid hb2
 have s2 := hg2.size
 simp only [World.size_setCell] at s2
 clear ho2 hb2 hge2 hg2 hne x0 x1 x2 x3 xf BX1 BR1
 obtain ⟨e0, e1, e2, e3, ef⟩ := BX2.out
 obtain ⟨y0, y1, y2, y3, yf⟩ := BR2.out
 go_wp2
 have hS : ∀ k, k ≠ w.heap.size + 1 → k ≠ w.heap.size + 1 + 1 → (set4 ((w2.setCell ⟨w.heap.size + 1, 0, none⟩ (.slice B3 (g.nodes.length + 1) d3)).setCell ⟨w.heap.size + 1, 2, none⟩ (.int .i64 (g.nn + 1))) (w.heap.size + 1 + 1) (.slice B3 (g.nodes.length + 1) d3) (.slice B2 g.edges.length d2) (.int .i64 (g.nn + 1)) (.int .i64 g.ne)).heap[k]? = w2.heap[k]? := fun k h1 h2 => by
  rw [set4_heap _ _ _ _ _ _ k h2, Below.heap_setCell _ ⟨w.heap.size + 1, 2, none⟩ _ k h1, Below.heap_setCell _ ⟨w.heap.size + 1, 0, none⟩ _ k h1]
 refine bodyPost_ret (v := .tuple #[.agg #[.slice B3 (g.nodes.length + 1) d3, .slice B2 g.edges.length d2, .int .i64 (g.nn + 1), .int .i64 g.ne], .int .i64 g.nn, .int .i64 0]) (by simp [results, Tryz.results87, go_sem, e0, e1, e2, e3, y0, y1, y2, y3]; try rfl) rfl ?_
 rw [HE.out]
 have hSm : Same (fun k => w.heap.size + 1 + 1 + 1 ≤ k) w2 (set4 ((w2.setCell ⟨w.heap.size + 1, 0, none⟩ (.slice B3 (g.nodes.length + 1) d3)).setCell ⟨w.heap.size + 1, 2, none⟩ (.int .i64 (g.nn + 1))) (w.heap.size + 1 + 1) (.slice B3 (g.nodes.length + 1) d3) (.slice B2 g.edges.length d2) (.int .i64 (g.nn + 1)) (.int .i64 g.ne)) := fun k hk _ => hS k (by omega) (by omega)
 refine ⟨_, _, rfl, Gr.mono (S := fun k => w.heap.size + 1 + 1 + 1 ≤ k) (Gr.move (w := w2) ⟨⟨nvs ++ [⟨g.nn, none, 0, 0⟩], HO2.out.row, RS.out.1.snoc g.nn⟩, RS.out.2.row⟩ hSm) (fun k hk _ => by omega), ?_⟩
 exact set4_below ((HB2.out.setCell (p := ⟨w.heap.size + 1, 0, none⟩) (by simp only; omega) _).setCell (p := ⟨w.heap.size + 1, 2, none⟩) (by simp only; omega) _) (by omega) _ _ _ _
end Go.Proofs.YtpehmmdbjakkpaaGreat
namespace Go.Proofs.YtpehmmdbjakkpaaGreat
open Go.RowKit Go.Shelf
set_option linter.unusedSimpArgs false
set_option linter.unusedVariables false
def linkOf (c : CfgD) (g : GraphD) (a b : Int) : GraphD × Int × Int := if atOf g.nodes a < 0 ∨ atOf g.nodes b < 0 then (GraphD.zero, 0, 2) else if c.eids < g.ne then (GraphD.zero, 0, 4) else (⟨g.nodes, g.edges ++ [⟨g.ne, a, b⟩], g.nn, g.ne + 1⟩, g.ne, 0)
set_option maxRecDepth 20000 in
set_option maxHeartbeats 8000000 in
theorem link_calls (w : World) (S : Nat → Prop) (c : CfgD) (g : GraphD) (vn ve : Value) (a b : Int) (h : Gr w S g vn ve) (hs : g.small) (hids : c.eids ≤ 1000000) (hne : 0 ≤ g.ne) (hl : g.edges.length ≤ 100000) : Calls Tryz.prog 89 #[c.val, .agg #[vn, ve, .int .i64 g.nn, .int .i64 g.ne], .int .i64 a, .int .i64 b] w (Ret3 w (linkOf c g a b)) := by
 obtain ⟨⟨A1, c1, rfl⟩, ⟨A2, c2, rfl⟩⟩ := h.slices
 have H := Lib.hid h
 have HS := Lib.hid hs
 have hs1 := hs.1
 clear h hs
 unfold CfgD.val
 have hW0 : Below w.heap.size w (((w.alloc (.cells #[.int .i64 c.nodes, .int .i64 c.edges, .int .i64 c.props, .int .i64 c.ids, .int .i64 c.eids] 23)).alloc (.cells #[.slice A1 g.nodes.length c1, .slice A2 g.edges.length c2, .int .i64 g.nn, .int .i64 g.ne] 31)).alloc (.cells #[.slice none 0 0, .slice none 0 0, .int .i64 0, .int .i64 0] 31)) := (((Below.refl w.heap.size w).alloc (Nat.le_refl _) _).alloc (by simp) _).alloc (by simp; omega) _
 have KW := Lib.hid hW0
 have BX := Lib.hid ((Box4.made (w.alloc (.cells #[.int .i64 c.nodes, .int .i64 c.edges, .int .i64 c.props, .int .i64 c.ids, .int .i64 c.eids] 23)) 31 (.slice A1 g.nodes.length c1) (.slice A2 g.edges.length c2) (.int .i64 g.nn) (.int .i64 g.ne)).keep (W' := (((w.alloc (.cells #[.int .i64 c.nodes, .int .i64 c.edges, .int .i64 c.props, .int .i64 c.ids, .int .i64 c.eids] 23)).alloc (.cells #[.slice A1 g.nodes.length c1, .slice A2 g.edges.length c2, .int .i64 g.nn, .int .i64 g.ne] 31)).alloc (.cells #[.slice none 0 0, .slice none 0 0, .int .i64 0, .int .i64 0] 31))) (Below.heap_alloc _ _ _ (by simp)))
 have BR := Lib.hid (Box4.made ((w.alloc (.cells #[.int .i64 c.nodes, .int .i64 c.edges, .int .i64 c.props, .int .i64 c.ids, .int .i64 c.eids] 23)).alloc (.cells #[.slice A1 g.nodes.length c1, .slice A2 g.edges.length c2, .int .i64 g.nn, .int .i64 g.ne] 31)) 31 (.slice none 0 0) (.slice none 0 0) (.int .i64 0) (.int .i64 0))
 have H0 := Lib.hid (H.out.below hW0)
 have CE : (((w.alloc (.cells #[.int .i64 c.nodes, .int .i64 c.edges, .int .i64 c.props, .int .i64 c.ids, .int .i64 c.eids] 23)).alloc (.cells #[.slice A1 g.nodes.length c1, .slice A2 g.edges.length c2, .int .i64 g.nn, .int .i64 g.ne] 31)).alloc (.cells #[.slice none 0 0, .slice none 0 0, .int .i64 0, .int .i64 0] 31)).cell? ⟨w.heap.size, 4, none⟩ = some (.int .i64 c.eids) := by simp [go_sem]
 have CE := Lib.hid CE
 clear hW0
 simp only [World.size_alloc] at BX BR
 go_enter Tryz.func89, Tryz.ntmps89
 go_wp2_with fail
 refine (at_calls _ S g _ _ a H0.out hs1).mono ?_
 rintro e w1 ⟨rfl, hb1⟩
 have s1 := hb1.size
 have K1 := Lib.hid (KW.out.trans (hb1.mono (by simp; omega)))
 have BX1 := Lib.hid (BX.out.keep (hb1.block _ (by simp)))
 have BR1 := Lib.hid (BR.out.keep (hb1.block _ (by simp)))
 have CE1 := Lib.hid ((hb1.cell (p := ⟨w.heap.size, 4, none⟩) (by simp; omega)).trans CE.out)
 have H1 := Lib.hid (H0.out.below hb1)
 clear hb1 BX BR KW CE H0
 simp only [World.size_alloc] at s1
 have g1 : w.heap.size < w1.heap.size := by omega
 have g2 : w.heap.size + 1 < w1.heap.size := by omega
 have g3 : w.heap.size + 1 + 1 < w1.heap.size := by omega
 by_cases ha : atOf g.nodes a < 0
 ·
  have HE := Lib.hid (show linkOf c g a b = (GraphD.zero, 0, 2) by unfold linkOf; rw [if_pos (.inl ha)])
  have hd : decide (atOf g.nodes a < 0) = true := decide_eq_true ha
  clear ha
  generalize atOf g.nodes a = p at *
  obtain ⟨y0, y1, y2, y3, yf⟩ := BR1.out
  go_wp2
  refine bodyPost_ret (v := .tuple #[.agg #[.slice none 0 0, .slice none 0 0, .int .i64 0, .int .i64 0], .int .i64 0, .int .i64 2]) (by simp [results, Tryz.results89, go_sem, y0, y1, y2, y3]; try rfl) rfl ?_
  rw [HE.out]
  exact ⟨_, _, rfl, Gr.zero _ _ _ _, set4_below K1.out (by omega) _ _ _ _⟩

 obtain ⟨x0, x1, x2, x3, xf⟩ := BX1.out
 have hd : decide (atOf g.nodes a < 0) = false := decide_eq_false ha
 have HNA := Lib.hid ha
 clear ha
 go_wp2_with fail
 refine (at_calls _ S g _ _ b H1.out hs1).mono ?_
 rintro e w2 ⟨rfl, hb2⟩
 have s2 := hb2.size
 have K2 := Lib.hid (K1.out.trans (hb2.mono (by omega)))
 have BX2 := Lib.hid (BX1.out.keep (hb2.block _ g2))
 have BR2 := Lib.hid (BR1.out.keep (hb2.block _ g3))
 have CE2 := Lib.hid ((hb2.cell (p := ⟨w.heap.size, 4, none⟩) g1).trans CE1.out)
 have H2 := Lib.hid (H1.out.below hb2)
 have g3' : w.heap.size + 1 + 1 < w2.heap.size := by omega
 clear hb2 BX1 BR1 CE1 H1 K1 x0 x1 x2 x3 xf g1 g2 g3 s1
 have g1 : w.heap.size < w2.heap.size := by omega
 have g2 : w.heap.size + 1 < w2.heap.size := by omega
 have g3 : w.heap.size + 1 + 1 < w2.heap.size := g3'
 by_cases hb : atOf g.nodes b < 0
 ·
  have HE := Lib.hid (show linkOf c g a b = (GraphD.zero, 0, 2) by unfold linkOf; rw [if_pos (.inr hb)])
  have hd2 : decide (atOf g.nodes b < 0) = true := decide_eq_true hb
  clear hb
  obtain ⟨y0, y1, y2, y3, yf⟩ := BR2.out
  go_wp2
  refine bodyPost_ret (v := .tuple #[.agg #[.slice none 0 0, .slice none 0 0, .int .i64 0, .int .i64 0], .int .i64 0, .int .i64 2]) (by simp [results, Tryz.results89, go_sem, y0, y1, y2, y3]; try rfl) rfl ?_
  rw [HE.out]
  exact ⟨_, _, rfl, Gr.zero _ _ _ _, set4_below K2.out (by omega) _ _ _ _⟩

 have hd2 : decide (atOf g.nodes b < 0) = false := decide_eq_false hb
 obtain ⟨x0, x1, x2, x3, xf⟩ := BX2.out
 have ce := CE2.out
 by_cases hc : c.eids < g.ne
 ·
  have HE := Lib.hid (show linkOf c g a b = (GraphD.zero, 0, 4) by unfold linkOf; rw [if_neg (by have := HNA.out; omega), if_pos hc])
  clear hb
  obtain ⟨y0, y1, y2, y3, yf⟩ := BR2.out
  go_wp2
  refine bodyPost_ret (v := .tuple #[.agg #[.slice none 0 0, .slice none 0 0, .int .i64 0, .int .i64 0], .int .i64 0, .int .i64 4]) (by simp [results, Tryz.results89, go_sem, y0, y1, y2, y3]; try rfl) rfl ?_
  rw [HE.out]
  exact ⟨_, _, rfl, Gr.zero _ _ _ _, set4_below K2.out (by omega) _ _ _ _⟩

 have HE := Lib.hid (show linkOf c g a b = (⟨g.nodes, g.edges ++ [⟨g.ne, a, b⟩], g.nn, g.ne + 1⟩, g.ne, 0) by unfold linkOf; rw [if_neg (by have := HNA.out; omega), if_neg hc])
 clear hb
 go_wp2_with fail
 refine (own_calls _ S g _ _ H2.out HS.out).mono ?_
 rintro e w3 ⟨vn1, ve1, nvs, rfl, ho1, hb1⟩
 obtain ⟨⟨B1, d1, rfl⟩, ⟨B2, d2, rfl⟩⟩ := ho1.gr.slices
 have s3 := hb1.size
 have K3 := Lib.hid (K2.out.trans (hb1.mono (by omega)))
 have BX3 := Lib.hid (BX2.out.keep (hb1.block _ g2))
 have BR3 := Lib.hid (BR2.out.keep (hb1.block _ g3))
 have HO1 := Lib.hid ho1
 clear hb1 ho1 BX2 BR2 K2 x0 x1 x2 x3 xf ce
 have g4 : w.heap.size + 1 < w3.heap.size := by omega
 have g5 : w.heap.size + 1 + 1 < w3.heap.size := by omega
 obtain ⟨x0, x1, x2, x3, xf⟩ := BX3.out
 go_wp2_with (at_builtin; refine wpList_own_appendS (ty := tEdge) (w := w) (S := fun k => w2.heap.size ≤ k) (Sy := fun _ => False) (v := .slice B2 g.edges.length d2) (xs := g.edges) (x := ⟨g.ne, a, b⟩) rfl _ _ 29 75 24 _ rfl elemEdges rfl ?hown rfl (by simp) rfl ?hB ?hge ?hSn ?hbytes ?hlen (fun _ h => h.elim) ?_)
 case hown => exact HO1.out.edges.keepFlat (fun k hk => set4_heap w3 (w.heap.size + 1) _ _ _ _ k (by have := HO1.out.edges.1 k hk; omega))
 case hB => exact set4_below K3.out (by omega) _ _ _ _
 case hge => exact fun k hk => by have := HO1.out.edges.1 k hk; omega
 case hSn => intro k hk; simp at hk; omega
 case hbytes => omega
 case hlen => unfold maxLen; omega
 intro v2 w4 ho2 hb2 hge2 hg2
 have hsl := ho2.slice
 have hl2 : (g.edges ++ [(⟨g.ne, a, b⟩ : EdgeD)]).length = g.edges.length + 1 := by rw [List.length_append]; rfl
 rw [hl2] at hsl
 clear hl2
 obtain ⟨B3, d3, rfl⟩ := hsl
 have hne2 : ∀ k, k < w2.heap.size → some k ≠ (Value.slice B2 g.edges.length d2).ownBlock := fun k hk e => by have := HO1.out.edges.1 k e.symm; omega
 have BX4 := Lib.hid ((BX3.out.set (.slice B1 g.nodes.length d1) (.slice B2 g.edges.length d2) (.int .i64 g.nn) (.int .i64 g.ne)).keep (hg2.block (w.heap.size + 1) (by simp; omega) (hne2 _ (by omega))))
 have BR4 := Lib.hid ((BR3.out.other4 (b' := w.heap.size + 1) (by omega) (.slice B1 g.nodes.length d1) (.slice B2 g.edges.length d2) (.int .i64 g.nn) (.int .i64 g.ne)).keep (hg2.block (w.heap.size + 1 + 1) (by simp; omega) (hne2 _ (by omega))))
 have RS := Lib.hid (HO1.out.restE (w' := w4) (fun k hB hnk hlt => (hg2.block k (by simp; omega) (fun e => hnk e.symm)).trans (set4_heap w3 (w.heap.size + 1) _ _ _ _ k (by omega))))
 have HO2 := Lib.hid ho2
 have HB2 := Lib.hid hb2
 have s4 := hg2.size
 simp only [World.size_setCell] at s4
 clear ho2 hb2 hge2 hg2 hne2 x0 x1 x2 x3 xf BX3 BR3
 obtain ⟨e0, e1, e2, e3, ef⟩ := BX4.out
 obtain ⟨y0, y1, y2, y3, yf⟩ := BR4.out
 go_wp2
 have hSm : Same (fun k => w2.heap.size ≤ k) w4 (set4 ((w4.setCell ⟨w.heap.size + 1, 1, none⟩ (.slice B3 (g.edges.length + 1) d3)).setCell ⟨w.heap.size + 1, 3, none⟩ (.int .i64 (g.ne + 1))) (w.heap.size + 1 + 1) (.slice B1 g.nodes.length d1) (.slice B3 (g.edges.length + 1) d3) (.int .i64 g.nn) (.int .i64 (g.ne + 1))) := fun k hk _ => by
  have h1 : k ≠ w.heap.size + 1 := by omega
  rw [set4_heap _ _ _ _ _ _ k (by omega), Below.heap_setCell _ ⟨w.heap.size + 1, 3, none⟩ _ k h1, Below.heap_setCell _ ⟨w.heap.size + 1, 1, none⟩ _ k h1]
 refine bodyPost_ret (v := .tuple #[.agg #[.slice B1 g.nodes.length d1, .slice B3 (g.edges.length + 1) d3, .int .i64 g.nn, .int .i64 (g.ne + 1)], .int .i64 g.ne, .int .i64 0]) (by simp [results, Tryz.results89, go_sem, e0, e1, e2, e3, y0, y1, y2, y3]; try rfl) rfl ?_
 rw [HE.out]
 refine ⟨_, _, rfl, Gr.mono (S := fun k => w2.heap.size ≤ k) (Gr.move (w := w4) ⟨⟨nvs, RS.out.2.row, RS.out.1⟩, HO2.out.row⟩ hSm) (fun k hk _ => by omega), ?_⟩
 exact set4_below ((HB2.out.setCell (p := ⟨w.heap.size + 1, 1, none⟩) (by simp only; omega) _).setCell (p := ⟨w.heap.size + 1, 3, none⟩) (by simp only; omega) _) (by omega) _ _ _ _
end Go.Proofs.YtpehmmdbjakkpaaGreat
namespace Go.Proofs.YtpehmmdbjakkpaaGreat
open Go.RowKit Go.Shelf
set_option linter.unusedSimpArgs false
set_option linter.unusedVariables false
def nearO (l : List EdgeD) (n : Int) : List P2 := (l.filter fun x => x.frm == n).map fun x => ⟨x.id, x.to⟩
def nearI (l : List EdgeD) (n : Int) : List P2 := (l.filter fun x => x.to == n).map fun x => ⟨x.id, x.frm⟩
theorem nearO_succ {l : List EdgeD} {j : Nat} {x : EdgeD} (h : l[j]? = some x) (n : Int) : nearO (l.take (j + 1)) n = nearO (l.take j) n ++ (if x.frm = n then [⟨x.id, x.to⟩] else []) := by
 unfold nearO
 rw [List.take_add_one, h, Option.toList_some, List.filter_append, List.map_append]
 by_cases hn : x.frm = n <;> simp [hn]
theorem nearI_succ {l : List EdgeD} {j : Nat} {x : EdgeD} (h : l[j]? = some x) (n : Int) : nearI (l.take (j + 1)) n = nearI (l.take j) n ++ (if x.to = n then [⟨x.id, x.frm⟩] else []) := by
 unfold nearI
 rw [List.take_add_one, h, Option.toList_some, List.filter_append, List.map_append]
 by_cases hn : x.to = n <;> simp [hn]
theorem nearO_len (l : List EdgeD) (j : Nat) (n : Int) : (nearO (l.take j) n).length ≤ j := by
 unfold nearO
 rw [List.length_map]
 have := List.length_filter_le (fun x : EdgeD => x.frm == n) (l.take j)
 rw [List.length_take] at this
 omega
theorem nearI_len (l : List EdgeD) (j : Nat) (n : Int) : (nearI (l.take j) n).length ≤ j := by
 unfold nearI
 rw [List.length_map]
 have := List.length_filter_le (fun x : EdgeD => x.to == n) (l.take j)
 rw [List.length_take] at this
 omega
def nearOf (g : GraphD) (n : Int) : List P2 × List P2 × Int := if atOf g.nodes n < 0 then ([], [], 2) else (nearO g.edges n, nearI g.edges n, 0)
def NearPost (w : World) (r : List P2 × List P2 × Int) (e : Ending) (w' : World) : Prop := ∃ vo vi, e = .returned (.tuple #[vo, vi, .int .i64 r.2.2]) ∧ Row tP w' (fun k => w.heap.size ≤ k) vo r.1 ∧ Row tP w' (fun k => w.heap.size ≤ k) vi r.2.1 ∧ Below w.heap.size w w'
set_option maxRecDepth 20000 in
set_option maxHeartbeats 8000000 in
theorem near_calls (w : World) (S : Nat → Prop) (g : GraphD) (vn ve : Value) (n : Int) (h : Gr w S g vn ve) (hl : g.nodes.length ≤ 1000000) (hle : g.edges.length ≤ 1000000) : Calls Tryz.prog 103 #[.agg #[vn, ve, .int .i64 g.nn, .int .i64 g.ne], .int .i64 n] w (NearPost w (nearOf g n)) := by
 obtain ⟨⟨A1, c1, rfl⟩, ⟨A2, c2, rfl⟩⟩ := h.slices
 have HG := Lib.hid h
 have H0 := Lib.hid (h.below (Below.heap1 w (.cells #[.slice A1 g.nodes.length c1, .slice A2 g.edges.length c2, .int .i64 g.nn, .int .i64 g.ne] 31)))
 have BX0 := Lib.hid (Box4.made w 31 (.slice A1 g.nodes.length c1) (.slice A2 g.edges.length c2) (.int .i64 g.nn) (.int .i64 g.ne))
 clear h
 go_enter Tryz.func103, Tryz.ntmps103
 go_wp2_with fail
 refine (at_calls _ S g _ _ n H0.out hl).mono ?_
 rintro e w1 ⟨rfl, hb1⟩
 have s1 := hb1.size
 have K1 := Lib.hid ((Below.heap1 w (.cells #[.slice A1 g.nodes.length c1, .slice A2 g.edges.length c2, .int .i64 g.nn, .int .i64 g.ne] 31)).trans (hb1.mono (by simp)))
 have BX1 := Lib.hid (BX0.out.keep (hb1.block _ (by simp)))
 have H1 := Lib.hid (H0.out.below hb1)
 clear hb1 BX0 H0
 simp only [World.size_alloc] at s1
 have g1 : w.heap.size < w1.heap.size := by omega
 obtain ⟨x0, x1, x2, x3, xf⟩ := BX1.out
 by_cases ha : atOf g.nodes n < 0
 ·
  have HE := Lib.hid (show nearOf g n = ([], [], 2) by unfold nearOf; rw [if_pos ha])
  have hd : decide (atOf g.nodes n < 0) = true := decide_eq_true ha
  clear ha
  generalize atOf g.nodes n = p at *
  go_wp2
  refine bodyPost_ret (v := .tuple #[.slice none 0 0, .slice none 0 0, .int .i64 2]) (by simp [results, Tryz.results103, go_sem]; try rfl) rfl ?_
  rw [HE.out]
  exact ⟨_, _, rfl, Row.nil _ _ _, Row.nil _ _ _, K1.out⟩
 have HE := Lib.hid (show nearOf g n = (nearO g.edges n, nearI g.edges n, 0) by unfold nearOf; rw [if_neg ha])
 have hd : decide (atOf g.nodes n < 0) = false := decide_eq_false ha
 clear ha
 generalize atOf g.nodes n = p at *
 go_wp2
 clear hd
 have KS := Lib.hid (show w.heap.size ≤ w1.heap.size by omega)
 clear x0 x1 x2 x3 xf BX1 g1 s1
 go_loopw [4, 5, 16] (fun o i p wr => ∃ j : Nat, j ≤ g.edges.length ∧ p = .int .i64 (j : Int) ∧ Hid (Own tP 131 wr (fun k => w.heap.size ≤ k) o (nearO (g.edges.take j) n)) ∧ Hid (Own tP 131 wr (fun k => w.heap.size ≤ k) i (nearI (g.edges.take j) n)) ∧ Hid (Below w.heap.size w wr) ∧ Hid (∀ k, o.ownBlock = some k → i.ownBlock ≠ some k)) (fun _ _ p _ => g.edges.length - (intOf p).toNat)
 case atStart => exact ⟨0, by omega, rfl, Own.nil _ _ _ _, Own.nil _ _ _ _, K1, (fun k hk => by simp [Value.ownBlock] at hk)⟩
 case round =>
  obtain ⟨wa, rfl⟩ : ∃ wa, wa = wr := ⟨wr, rfl⟩
  obtain ⟨j, hj, rfl, ho, hi, hb, hd⟩ := hrel
  have hwr := hb.out.size
  by_cases hlt : j < g.edges.length
  ·
   obtain ⟨x, hx⟩ := getElem?_of_lt hlt
   obtain ⟨b', off', rfl, _, hbl, x0, x1, x2⟩ := (HG.out.below hb.out).atE hx
   have q0 : b' < wa.heap.size + 1 := by omega
   have HX := Lib.hid hx
   clear hx
   have hlo := nearO_len g.edges j n
   have hli := nearI_len g.edges j n
   have q1 : wa.heap.size < wa.heap.size + 1 := by omega
   have KB := Lib.hid (Below.heap1 wa (.cells #[.int .i64 x.id, .int .i64 x.frm, .int .i64 x.to] 75))
   have HOA := Lib.hid (ho.out.below KB.out)
   have HIA := Lib.hid (hi.out.below KB.out)
   have HBA := Lib.hid (hb.out.trans (KB.out.mono hwr))
   by_cases h1 : x.frm = n
   ·
    have HO2 := Lib.hid (show nearO (g.edges.take (j + 1)) n = nearO (g.edges.take j) n ++ [⟨x.id, x.to⟩] by rw [nearO_succ HX.out, if_pos h1])
    replace h1 : (x.frm == n) = true := beq_iff_eq.mpr h1
    go_wp2_with (at_builtin; refine wpList_own_append1 (ty := tP) (w := w) (S := fun k => w.heap.size ≤ k) (Sy := fun _ => False) (v := u4) (xs := nearO (g.edges.take j) n) (x := ⟨x.id, x.to⟩) rfl _ _ 48 131 16 _ rfl elemEnds rfl ?hown rfl (by simp <;> omega) rfl ?hB (fun _ h => h) (fun _ h _ => h) ?hbytes ?hlen (fun _ h => h.elim) ?_)
    case hown => exact HOA.out
    case hB => exact HBA.out
    case hbytes => omega
    case hlen => unfold maxLen; omega
    intro v3 w3 ho3 hb3 hg3 hor3
    have HO3 := Lib.hid (show Own tP 131 w3 (fun k => w.heap.size ≤ k) v3 (nearO (g.edges.take (j + 1)) n) by rw [HO2.out]; exact ho3)
    have HI3 := Lib.hid (HIA.out.keepFlat (w' := w3) fun k hk => hg3.block k (HIA.out.lt k hk) (fun e => hd.out k e.symm hk))
    have HB3 := Lib.hid hb3
    have HD3 := Lib.hid (show ∀ k, v3.ownBlock = some k → u5.ownBlock ≠ some k from fun k hk e => by
     rcases hor3 with h | h
     ·
      exact hd.out k (h ▸ hk) e
     ·
      have h5 := Option.some.inj (h.symm.trans hk)
      have h6 := HIA.out.lt k e
      try simp only [World.size_alloc] at h5
      try simp only [World.size_alloc] at h6
      omega)
    have s3 := hg3.size
    have hbk : w3.heap[wa.heap.size]? = (wa.alloc (.cells #[.int .i64 x.id, .int .i64 x.frm, .int .i64 x.to] 75)).heap[wa.heap.size]? := hg3.block wa.heap.size (by simp) (fun e => by have := ho.out.lt _ e.symm; omega)
    simp only [World.size_alloc] at s3
    have q2 : wa.heap.size < w3.heap.size := by omega
    have c0 : w3.cell? ⟨wa.heap.size, 0, none⟩ = some (.int .i64 x.id) := (World.cell?_of_block hbk).trans (by simp [go_sem])
    have c1 : w3.cell? ⟨wa.heap.size, 1, none⟩ = some (.int .i64 x.frm) := (World.cell?_of_block hbk).trans (by simp [go_sem])
    have c2 : w3.cell? ⟨wa.heap.size, 2, none⟩ = some (.int .i64 x.to) := (World.cell?_of_block hbk).trans (by simp [go_sem])
    clear ho3 hb3 hg3 hor3 hbk
    by_cases h2 : x.to = n
    ·
     have HI2 := Lib.hid (show nearI (g.edges.take (j + 1)) n = nearI (g.edges.take j) n ++ [⟨x.id, x.frm⟩] by rw [nearI_succ HX.out, if_pos h2])
     replace h2 : (x.to == n) = true := beq_iff_eq.mpr h2
     go_wp2_with (at_builtin; refine wpList_own_append1 (ty := tP) (w := w) (S := fun k => w.heap.size ≤ k) (Sy := fun _ => False) (v := u5) (xs := nearI (g.edges.take j) n) (x := ⟨x.id, x.frm⟩) rfl _ _ 48 131 16 _ rfl elemEnds rfl ?hown rfl (by simp <;> omega) rfl ?hB (fun _ h => h) (fun _ h _ => h) ?hbytes ?hlen (fun _ h => h.elim) ?_)
     case hown => exact HI3.out
     case hB => exact HB3.out
     case hbytes => omega
     case hlen => unfold maxLen; omega
     intro v4 w4 ho4 hb4 hg4 hor4
     have HO4 := Lib.hid (HO3.out.keepFlat (w' := w4) fun k hk => hg4.block k (HO3.out.lt k hk) (fun e => HD3.out k hk e.symm))
     have HI4 := Lib.hid (show Own tP 131 w4 (fun k => w.heap.size ≤ k) v4 (nearI (g.edges.take (j + 1)) n) by rw [HI2.out]; exact ho4)
     have HB4 := Lib.hid hb4
     have HD4 := Lib.hid (show ∀ k, v3.ownBlock = some k → v4.ownBlock ≠ some k from fun k hk e => by
      rcases hor4 with h | h
      ·
       exact HD3.out k hk (h ▸ e)
      ·
       have h5 := Option.some.inj (h.symm.trans e)
       have h6 := HO3.out.lt k hk
       try simp only [World.size_alloc] at h5
       try simp only [World.size_alloc] at h6
       omega)
     clear ho4 hb4 hg4 hor4
     go_wp2
     go_roundw
     case rel => exact ⟨j + 1, by omega, by first | (go_num; done) | (go_num; omega), HO4, HI4, HB4, HD4⟩
     case measure => simp [intOf]; omega
    ·
     have HI2 := Lib.hid (show nearI (g.edges.take (j + 1)) n = nearI (g.edges.take j) n by rw [nearI_succ HX.out, if_neg h2, List.append_nil])
     replace h2 : (x.to == n) = false := beq_eq_false_iff_ne.mpr h2
     have HI4 := HI3
     rw [← HI2.out] at HI4
     go_wp2
     go_roundw
     case rel => exact ⟨j + 1, by omega, by first | (go_num; done) | (go_num; omega), HO3, HI4, HB3, HD3⟩
     case measure => simp [intOf]; omega
   ·
    have HO2 := Lib.hid (show nearO (g.edges.take (j + 1)) n = nearO (g.edges.take j) n by rw [nearO_succ HX.out, if_neg h1, List.append_nil])
    replace h1 : (x.frm == n) = false := beq_eq_false_iff_ne.mpr h1
    have HO3 := HOA
    rw [← HO2.out] at HO3
    by_cases h2 : x.to = n
    ·
     have HI2 := Lib.hid (show nearI (g.edges.take (j + 1)) n = nearI (g.edges.take j) n ++ [⟨x.id, x.frm⟩] by rw [nearI_succ HX.out, if_pos h2])
     replace h2 : (x.to == n) = true := beq_iff_eq.mpr h2
     go_wp2_with (at_builtin; refine wpList_own_append1 (ty := tP) (w := w) (S := fun k => w.heap.size ≤ k) (Sy := fun _ => False) (v := u5) (xs := nearI (g.edges.take j) n) (x := ⟨x.id, x.frm⟩) rfl _ _ 48 131 16 _ rfl elemEnds rfl ?hown rfl (by simp <;> omega) rfl ?hB (fun _ h => h) (fun _ h _ => h) ?hbytes ?hlen (fun _ h => h.elim) ?_)
     case hown => exact HIA.out
     case hB => exact HBA.out
     case hbytes => omega
     case hlen => unfold maxLen; omega
     intro v4 w4 ho4 hb4 hg4 hor4
     have HO4 := Lib.hid (HO3.out.keepFlat (w' := w4) fun k hk => hg4.block k (HO3.out.lt k hk) (fun e => hd.out k hk e.symm))
     have HI4 := Lib.hid (show Own tP 131 w4 (fun k => w.heap.size ≤ k) v4 (nearI (g.edges.take (j + 1)) n) by rw [HI2.out]; exact ho4)
     have HB4 := Lib.hid hb4
     have HD4 := Lib.hid (show ∀ k, u4.ownBlock = some k → v4.ownBlock ≠ some k from fun k hk e => by
      rcases hor4 with h | h
      ·
       exact hd.out k hk (h ▸ e)
      ·
       have h5 := Option.some.inj (h.symm.trans e)
       have h6 := HO3.out.lt k hk
       try simp only [World.size_alloc] at h5
       try simp only [World.size_alloc] at h6
       omega)
     clear ho4 hb4 hg4 hor4
     go_wp2
     go_roundw
     case rel => exact ⟨j + 1, by omega, by first | (go_num; done) | (go_num; omega), HO4, HI4, HB4, HD4⟩
     case measure => simp [intOf]; omega
    ·
     have HI2 := Lib.hid (show nearI (g.edges.take (j + 1)) n = nearI (g.edges.take j) n by rw [nearI_succ HX.out, if_neg h2, List.append_nil])
     replace h2 : (x.to == n) = false := beq_eq_false_iff_ne.mpr h2
     have HI4 := HIA
     rw [← HI2.out] at HI4
     go_wp2
     go_roundw
     case rel => exact ⟨j + 1, by omega, by first | (go_num; done) | (go_num; omega), HO3, HI4, HBA, hd⟩
     case measure => simp [intOf]; omega
  ·
   obtain rfl : j = g.edges.length := by omega
   go_wp2
   refine bodyPost_ret (v := .tuple #[u4, u5, .int .i64 0]) (by simp [results, Tryz.results103, go_sem]; try rfl) rfl ?_
   rw [HE.out]
   exact ⟨_, _, rfl, by have := ho.out.row; rwa [List.take_length] at this, by have := hi.out.row; rwa [List.take_length] at this, hb.out⟩
end Go.Proofs.YtpehmmdbjakkpaaGreat

