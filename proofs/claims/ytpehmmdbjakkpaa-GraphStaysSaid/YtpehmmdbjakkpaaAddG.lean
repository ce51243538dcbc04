/- graph.New, graph.Add, and the law's own configuration. -/
import Derived.Test.YtpehmmdbjakkpaaGBox
namespace Go.Proofs.Ytpehmmdbjakkpaa
open Go.RowKit Go.Shelf
set_option linter.unusedSimpArgs false
set_option linter.unusedVariables false
theorem plain_calls (w : World) : Calls Try.prog 74 #[] w fun e w' => e = .returned (CfgD.val ⟨4, 4, 4, 4, 4⟩) ∧ Below w.heap.size w w' := by
  go_enter Try.func74, Try.ntmps74
  go_wp2
  refine bodyPost_ret (v := CfgD.val ⟨4, 4, 4, 4, 4⟩) (by simp [results, Try.results74, go_sem, CfgD.val]; try rfl) rfl ⟨rfl, (Below.refl _ _).alloc (Nat.le_refl _) _⟩
theorem new_calls (w : World) : Calls Try.prog 49 #[] w fun e w' => e = .returned (.agg #[.slice none 0 0, .slice none 0 0, .int .i64 1, .int .i64 1]) ∧ Below w.heap.size w w' := by
  go_enter Try.func49, Try.ntmps49
  go_wp2
  refine bodyPost_ret (v := .agg #[.slice none 0 0, .slice none 0 0, .int .i64 1, .int .i64 1]) (by simp [results, Try.results49, go_sem]; try rfl) rfl ⟨rfl, (Below.refl _ _).alloc (Nat.le_refl _) _⟩
def addOf (c : CfgD) (g : GraphD) : GraphD × Int × Int := if c.ids < g.nn then (GraphD.zero, 0, 4) else (⟨g.nodes ++ [⟨g.nn, []⟩], g.edges, g.nn + 1, g.ne⟩, g.nn, 0)
/-- A graph, a number and an error, handed back. -/
def Ret3 (w : World) (r : GraphD × Int × Int) (e : Ending) (w' : World) : Prop := ∃ vn ve, e = .returned (.tuple #[.agg #[vn, ve, .int .i64 r.1.nn, .int .i64 r.1.ne], .int .i64 r.2.1, .int .i64 r.2.2]) ∧ Gr w' (fun k => w.heap.size ≤ k) r.1 vn ve ∧ Below w.heap.size w w'
theorem NVs.snoc {w : World} {S : Nat → Prop} {nvs : List NV} {xs : List NodeD} (h : NVs w S nvs xs) (n : Int) : NVs w S (nvs ++ [⟨n, none, 0, 0⟩]) (xs ++ [⟨n, []⟩]) := by
  refine ⟨by simp [h.len], fun j v x hv hx => ?_⟩
  rw [List.getElem?_append] at hv hx
  rw [h.len] at hv
  split at hv
  · rename_i hj
    rw [if_pos hj] at hx
    exact h.each j v x hv hx
  · rename_i hj
    rw [if_neg hj] at hx
    rcases hn : j - xs.length with _ | m
    · rw [hn] at hv hx
      simp at hv hx
      subst hv hx
      exact ⟨rfl, Row.nil _ _ _⟩
    · rw [hn] at hv
      simp at hv
set_option maxRecDepth 20000 in
set_option maxHeartbeats 8000000 in
theorem add_calls (w : World) (S : Nat → Prop) (c : CfgD) (g : GraphD) (vn ve : Value) (h : Gr w S g vn ve) (hs : g.small) (hids : c.ids ≤ 1000000) (hnn : 0 ≤ g.nn) (hl : g.nodes.length ≤ 100000) : Calls Try.prog 27 #[c.val, .agg #[vn, ve, .int .i64 g.nn, .int .i64 g.ne]] w (Ret3 w (addOf c g)) := by
  obtain ⟨⟨A1, c1, rfl⟩, ⟨A2, c2, rfl⟩⟩ := h.slices
  have H := Lib.hid h
  have HS := Lib.hid hs
  clear h hs
  unfold CfgD.val
  by_cases hc : c.ids < g.nn
  · have HE := Lib.hid (show addOf c g = (GraphD.zero, 0, 4) by unfold addOf; rw [if_pos hc])
    go_enter Try.func27, Try.ntmps27
    go_wp2
    refine bodyPost_ret (v := .tuple #[.agg #[.slice none 0 0, .slice none 0 0, .int .i64 0, .int .i64 0], .int .i64 0, .int .i64 4]) (by simp [results, Try.results27, go_sem]; try rfl) rfl ?_
    rw [HE.out]
    exact ⟨_, _, rfl, Gr.zero _ _ _ _, (by repeat (first | (with_reducible exact Below.refl _ _) | (with_reducible exact Below.refl _ _) | (with_reducible refine Below.drew ?_) | (with_reducible refine Below.alloc ?_ (by simp; try omega) _) | (with_reducible refine Below.setCell ?_ (by simp; try omega) _)))⟩
  have HE := Lib.hid (show addOf c g = (⟨g.nodes ++ [⟨g.nn, []⟩], g.edges, g.nn + 1, g.ne⟩, g.nn, 0) by unfold addOf; rw [if_neg hc])
  go_enter Try.func27, Try.ntmps27
  go_wp2_with fail
  have hW0 : Below w.heap.size w (((w.alloc (.cells #[.int .i64 c.nodes, .int .i64 c.edges, .int .i64 c.props, .int .i64 c.ids, .int .i64 c.eids] 23)).alloc (.cells #[.slice A1 g.nodes.length c1, .slice A2 g.edges.length c2, .int .i64 g.nn, .int .i64 g.ne] 27)).alloc (.cells #[.slice none 0 0, .slice none 0 0, .int .i64 0, .int .i64 0] 27)) := (((Below.refl w.heap.size w).alloc (Nat.le_refl _) _).alloc (by simp) _).alloc (by simp; omega) _
  have KW := Lib.hid hW0
  have BX := Lib.hid ((Box4.made (w.alloc (.cells #[.int .i64 c.nodes, .int .i64 c.edges, .int .i64 c.props, .int .i64 c.ids, .int .i64 c.eids] 23)) 27 (.slice A1 g.nodes.length c1) (.slice A2 g.edges.length c2) (.int .i64 g.nn) (.int .i64 g.ne)).keep (W' := ((w.alloc (.cells #[.int .i64 c.nodes, .int .i64 c.edges, .int .i64 c.props, .int .i64 c.ids, .int .i64 c.eids] 23)).alloc (.cells #[.slice A1 g.nodes.length c1, .slice A2 g.edges.length c2, .int .i64 g.nn, .int .i64 g.ne] 27)).alloc (.cells #[.slice none 0 0, .slice none 0 0, .int .i64 0, .int .i64 0] 27)) (Below.heap_alloc _ _ _ (by simp)))
  have BR := Lib.hid (Box4.made ((w.alloc (.cells #[.int .i64 c.nodes, .int .i64 c.edges, .int .i64 c.props, .int .i64 c.ids, .int .i64 c.eids] 23)).alloc (.cells #[.slice A1 g.nodes.length c1, .slice A2 g.edges.length c2, .int .i64 g.nn, .int .i64 g.ne] 27)) 27 (.slice none 0 0) (.slice none 0 0) (.int .i64 0) (.int .i64 0))
  have H0 := Lib.hid (H.out.below hW0)
  clear hW0
  simp only [World.size_alloc] at BX BR
  refine (own_calls _ S g _ _ H0.out HS.out).mono ?_
  rintro e w1 ⟨vn1, ve1, nvs, rfl, ho1, hb1⟩
  obtain ⟨⟨B1, d1, rfl⟩, ⟨B2, d2, rfl⟩⟩ := ho1.gr.slices
  have s1 := hb1.size
  have hlt := hb1.block
  have K1 := Lib.hid (KW.out.trans (hb1.mono (by simp; omega)))
  have BX1 := Lib.hid (BX.out.keep (hb1.block _ (by simp)))
  have BR1 := Lib.hid (BR.out.keep (hb1.block _ (by simp)))
  have HO1 := Lib.hid ho1
  clear hb1 ho1 hlt BX BR KW
  simp only [World.size_alloc] at s1 HO1
  have g1 : w.heap.size < w1.heap.size := by omega
  have g2 : w.heap.size + 1 < w1.heap.size := by omega
  have g3 : w.heap.size + 1 + 1 < w1.heap.size := by omega
  obtain ⟨x0, x1, x2, x3, xf⟩ := BX1.out
  have HLN := Lib.hid (show nvs.length = g.nodes.length from HO1.out.len)
  go_wp2_with (at_builtin; refine wpList_own_appendS (ty := tNV) (w := w) (S := fun k => w.heap.size + 1 + 1 + 1 ≤ k) (Sy := fun _ => False) (v := .slice B1 g.nodes.length d1) (xs := nvs) (x := ⟨g.nn, none, 0, 0⟩) rfl _ _ 24 32 32 _ rfl elemNodes rfl ?hown rfl (by simp) rfl ?hB ?hge ?hSn ?hbytes ?hlen (fun _ h => h.elim) ?_)
  case hown => exact HO1.out.nodes.keepFlat (fun k hk => set4_heap w1 (w.heap.size + 1) _ _ _ _ k (by have := HO1.out.nodes.1 k hk; omega))
  case hB => exact set4_below K1.out (by omega) _ _ _ _
  case hge => exact fun k hk => by have := HO1.out.nodes.1 k hk; omega
  case hSn => intro k hk; simp at hk; omega
  case hbytes => have := HLN.out; omega
  case hlen => have := HLN.out; unfold maxLen; omega
  intro v2 w2 ho2 hb2 hge2 hg2
  have hsl := ho2.slice
  have hl2 : (nvs ++ [(⟨g.nn, none, 0, 0⟩ : NV)]).length = g.nodes.length + 1 := by rw [List.length_append, HLN.out]; rfl
  rw [hl2] at hsl
  clear hl2
  obtain ⟨B3, d3, rfl⟩ := hsl
  have hne : ∀ k, k < w.heap.size + 1 + 1 + 1 → some k ≠ (Value.slice B1 g.nodes.length d1).ownBlock := fun k hk e => by have := HO1.out.nodes.1 k e.symm; omega
  have BX2 := Lib.hid ((BX1.out.set (.slice B1 g.nodes.length d1) (.slice B2 g.edges.length d2) (.int .i64 g.nn) (.int .i64 g.ne)).keep (hg2.block (w.heap.size + 1) (by simp; omega) (hne _ (by omega))))
  have BR2 := Lib.hid ((BR1.out.other4 (b' := w.heap.size + 1) (by omega) (.slice B1 g.nodes.length d1) (.slice B2 g.edges.length d2) (.int .i64 g.nn) (.int .i64 g.ne)).keep (hg2.block (w.heap.size + 1 + 1) (by simp; omega) (hne _ (by omega))))
  have RS := Lib.hid (HO1.out.restN (w' := w2) (fun k hB hnk hlt => (hg2.block k (by simp; omega) (fun e => hnk e.symm)).trans (set4_heap w1 (w.heap.size + 1) _ _ _ _ k (by omega))))
  have HO2 := Lib.hid ho2
  have HB2 := Lib.hid hb2
  have s2 := hg2.size
  simp only [World.size_setCell] at s2
  clear ho2 hb2 hge2 hg2 hne x0 x1 x2 x3 xf BX1 BR1
  obtain ⟨e0, e1, e2, e3, ef⟩ := BX2.out
  obtain ⟨y0, y1, y2, y3, yf⟩ := BR2.out
  go_wp2
  have hS : ∀ k, k ≠ w.heap.size + 1 → k ≠ w.heap.size + 1 + 1 → (set4 ((w2.setCell ⟨w.heap.size + 1, 0, none⟩ (.slice B3 (g.nodes.length + 1) d3)).setCell ⟨w.heap.size + 1, 2, none⟩ (.int .i64 (g.nn + 1))) (w.heap.size + 1 + 1) (.slice B3 (g.nodes.length + 1) d3) (.slice B2 g.edges.length d2) (.int .i64 (g.nn + 1)) (.int .i64 g.ne)).heap[k]? = w2.heap[k]? := fun k h1 h2 => by
    rw [set4_heap _ _ _ _ _ _ k h2, Below.heap_setCell _ ⟨w.heap.size + 1, 2, none⟩ _ k h1, Below.heap_setCell _ ⟨w.heap.size + 1, 0, none⟩ _ k h1]
  refine bodyPost_ret (v := .tuple #[.agg #[.slice B3 (g.nodes.length + 1) d3, .slice B2 g.edges.length d2, .int .i64 (g.nn + 1), .int .i64 g.ne], .int .i64 g.nn, .int .i64 0]) (by simp [results, Try.results27, go_sem, e0, e1, e2, e3, y0, y1, y2, y3]; try rfl) rfl ?_
  rw [HE.out]
  have hSm : Same (fun k => w.heap.size + 1 + 1 + 1 ≤ k) w2 (set4 ((w2.setCell ⟨w.heap.size + 1, 0, none⟩ (.slice B3 (g.nodes.length + 1) d3)).setCell ⟨w.heap.size + 1, 2, none⟩ (.int .i64 (g.nn + 1))) (w.heap.size + 1 + 1) (.slice B3 (g.nodes.length + 1) d3) (.slice B2 g.edges.length d2) (.int .i64 (g.nn + 1)) (.int .i64 g.ne)) := fun k hk _ => hS k (by omega) (by omega)
  refine ⟨_, _, rfl, Gr.mono (S := fun k => w.heap.size + 1 + 1 + 1 ≤ k) (Gr.move (w := w2) ⟨⟨nvs ++ [⟨g.nn, none, 0, 0⟩], HO2.out.row, RS.out.1.snoc g.nn⟩, RS.out.2.row⟩ hSm) (fun k hk _ => by omega), ?_⟩
  exact set4_below ((HB2.out.setCell (p := ⟨w.heap.size + 1, 0, none⟩) (by simp only; omega) _).setCell (p := ⟨w.heap.size + 1, 2, none⟩) (by simp only; omega) _) (by omega) _ _ _ _
end Go.Proofs.Ytpehmmdbjakkpaa
