/- graph.Cut and graph.Drop. -/
import Derived.Test.YtpehmmdbjakkpaaGetG
namespace Go.Proofs.Ytpehmmdbjakkpaa
open Go.RowKit Go.Shelf
set_option linter.unusedSimpArgs false
set_option linter.unusedVariables false
/-- A graph and an error, handed back. -/
def Ret2 (w : World) (r : GraphD × Int) (e : Ending) (w' : World) : Prop := ∃ vn ve, e = .returned (.tuple #[.agg #[vn, ve, .int .i64 r.1.nn, .int .i64 r.1.ne], .int .i64 r.2]) ∧ Gr w' (fun k => w.heap.size ≤ k) r.1 vn ve ∧ Below w.heap.size w w'
def cutOf (g : GraphD) (n : Int) : GraphD × Int := if (g.edges.filter fun x => !(x.id == n)).length = g.edges.length then (GraphD.zero, 2) else (⟨g.nodes, g.edges.filter fun x => !(x.id == n), g.nn, g.ne⟩, 0)
set_option maxRecDepth 20000 in
set_option maxHeartbeats 8000000 in
theorem cut_calls (w : World) (S : Nat → Prop) (g : GraphD) (vn ve : Value) (n : Int) (h : Gr w S g vn ve) (hs : g.small) : Calls Try.prog 32 #[.agg #[vn, ve, .int .i64 g.nn, .int .i64 g.ne], .int .i64 n] w (Ret2 w (cutOf g n)) := by
  obtain ⟨⟨A1, c1, rfl⟩, ⟨A2, c2, rfl⟩⟩ := h.slices
  have HS := Lib.hid hs
  have hs1 := hs.1
  have hs2 := hs.2.1
  have hW0 : Below w.heap.size w (((w.alloc (.cells #[.slice A1 g.nodes.length c1, .slice A2 g.edges.length c2, .int .i64 g.nn, .int .i64 g.ne] 27)).alloc (.cells #[.int .i64 n] 3)).alloc (.cells #[.slice none 0 0, .slice none 0 0, .int .i64 0, .int .i64 0] 27)) := (((Below.refl w.heap.size w).alloc (Nat.le_refl _) _).alloc (by simp) _).alloc (by simp; omega) _
  have KW := Lib.hid hW0
  have BX := Lib.hid ((Box4.made w 27 (.slice A1 g.nodes.length c1) (.slice A2 g.edges.length c2) (.int .i64 g.nn) (.int .i64 g.ne)).keep (W' := (((w.alloc (.cells #[.slice A1 g.nodes.length c1, .slice A2 g.edges.length c2, .int .i64 g.nn, .int .i64 g.ne] 27)).alloc (.cells #[.int .i64 n] 3)).alloc (.cells #[.slice none 0 0, .slice none 0 0, .int .i64 0, .int .i64 0] 27))) (by rw [Below.heap_alloc _ _ _ (by simp; omega), Below.heap_alloc _ _ _ (by simp)]))
  have BR := Lib.hid (Box4.made ((w.alloc (.cells #[.slice A1 g.nodes.length c1, .slice A2 g.edges.length c2, .int .i64 g.nn, .int .i64 g.ne] 27)).alloc (.cells #[.int .i64 n] 3)) 27 (.slice none 0 0) (.slice none 0 0) (.int .i64 0) (.int .i64 0))
  have CB := Lib.hid (show (((w.alloc (.cells #[.slice A1 g.nodes.length c1, .slice A2 g.edges.length c2, .int .i64 g.nn, .int .i64 g.ne] 27)).alloc (.cells #[.int .i64 n] 3)).alloc (.cells #[.slice none 0 0, .slice none 0 0, .int .i64 0, .int .i64 0] 27)).cell? ⟨w.heap.size + 1, 0, none⟩ = some (.int .i64 n) by simp [go_sem])
  have H0 := Lib.hid (h.below hW0)
  clear hW0 h hs
  simp only [World.size_alloc] at BR
  go_enter Try.func32, Try.ntmps32
  go_wp2_with fail
  refine (own_calls _ S g _ _ H0.out HS.out).mono ?_
  rintro e w1 ⟨vn1, ve1, nvs, rfl, ho1, hb1⟩
  obtain ⟨⟨B1, d1, rfl⟩, ⟨B2, d2, rfl⟩⟩ := ho1.gr.slices
  have s1 := hb1.size
  have K1 := Lib.hid (KW.out.trans (hb1.mono (by simp <;> omega)))
  have BX1 := Lib.hid (BX.out.keep (hb1.block w.heap.size (by simp <;> omega)))
  have BR1 := Lib.hid (BR.out.keep (hb1.block (w.heap.size + 1 + 1) (by simp <;> omega)))
  have CB1 := Lib.hid ((hb1.cell (p := ⟨w.heap.size + 1, 0, none⟩) (by simp <;> omega)).trans CB.out)
  have HO1 := Lib.hid ho1
  clear hb1 ho1 BX BR CB KW H0
  simp only [World.size_alloc] at s1 HO1
  have g1 : w.heap.size < w1.heap.size := by omega
  have g2 : w.heap.size + 1 < w1.heap.size := by omega
  have g3 : w.heap.size + 1 + 1 < w1.heap.size := by omega
  obtain ⟨x0, x1, x2, x3, xf⟩ := BX1.out
  go_wp2_with fail
  obtain ⟨W1, hW⟩ : ∃ W1, W1 = set4 w1 w.heap.size (.slice B1 g.nodes.length d1) (.slice B2 g.edges.length d2) (.int .i64 g.nn) (.int .i64 g.ne) := ⟨_, rfl⟩
  have BW := Lib.hid (show Box4 W1 w.heap.size (.slice B1 g.nodes.length d1) (.slice B2 g.edges.length d2) (.int .i64 g.nn) (.int .i64 g.ne) by rw [hW]; exact BX1.out.set _ _ _ _)
  have BQ := Lib.hid (show Box4 W1 (w.heap.size + 1 + 1) (.slice none 0 0) (.slice none 0 0) (.int .i64 0) (.int .i64 0) by rw [hW]; exact BR1.out.other4 (by omega) _ _ _ _)
  have CW := Lib.hid (show W1.cell? ⟨w.heap.size + 1, 0, none⟩ = some (.int .i64 n) by rw [hW]; exact (World.cell?_of_block (set4_heap w1 w.heap.size _ _ _ _ (w.heap.size + 1) (by omega))).trans CB1.out)
  have KW1 := Lib.hid (show Below w.heap.size w W1 by rw [hW]; exact set4_below K1.out (Nat.le_refl _) _ _ _ _)
  have sW : W1.heap.size = w1.heap.size := by rw [hW, set4_size]
  have HOW := Lib.hid (HO1.out.move (w' := W1) fun k hk _ => by rw [hW]; exact set4_heap _ _ _ _ _ _ k (by omega))
  unfold set4 at hW
  rw [← hW]
  clear hW x0 x1 x2 x3 xf BX1 BR1 CB1 K1 HO1
  refine (withoutE_calls W1 _ (fun k => k = w.heap.size + 1) _ g.edges _ _ (fun x => x.id == n) cutC_enters (fun W x hK => ?_) HOW.out.edges.row (by intro k hk; have h9 : k = w.heap.size + 1 := hk; omega) hs2).mono ?_
  · refine cutC_calls W x n (w.heap.size + 1) (by have := hK.1; omega) ?_
    rw [hK.cell _ _ rfl (by omega)]
    exact CW.out
  rintro e w2 ⟨v2, rfl, ho2, hb2⟩
  obtain ⟨B3, d3, rfl⟩ := ho2.slice
  have s2 := hb2.size
  have K2 := Lib.hid (KW1.out.trans (hb2.mono (by omega)))
  have BX2 := Lib.hid (BW.out.keep (hb2.block w.heap.size (by omega)))
  have BR2 := Lib.hid (BQ.out.keep (hb2.block (w.heap.size + 1 + 1) (by omega)))
  have HO2 := Lib.hid ho2
  have HOB := Lib.hid (HOW.out.below hb2)
  clear ho2 hb2 BW BQ HOW CW KW1
  obtain ⟨l, hl⟩ : ∃ l, l = g.edges.filter (fun x => !(x.id == n)) := ⟨_, rfl⟩
  have HL := Lib.hid hl
  rw [← hl] at HO2 ⊢
  clear hl
  obtain ⟨x0, x1, x2, x3, xf⟩ := BX2.out
  obtain ⟨y0, y1, y2, y3, yf⟩ := BR2.out
  have hbl : ∀ k, k ≠ w.heap.size → ∀ u, (w2.setCell ⟨w.heap.size, 1, none⟩ u).heap[k]? = w2.heap[k]? := fun k hk u => Below.heap_setCell _ ⟨w.heap.size, 1, none⟩ _ k hk
  have HBL := Lib.hid hbl
  clear hbl
  by_cases hlen : l.length = g.edges.length
  · have HE := Lib.hid (show cutOf g n = (GraphD.zero, 2) by unfold cutOf; rw [← HL.out, if_pos hlen])
    replace hlen : ((l.length : Int) == (g.edges.length : Int)) = true := beq_iff_eq.mpr (by omega)
    go_wp2
    refine bodyPost_ret (v := .tuple #[.agg #[.slice none 0 0, .slice none 0 0, .int .i64 0, .int .i64 0], .int .i64 2]) (by simp [results, Try.results32, go_sem, y0, y1, y2, y3]; try rfl) rfl ?_
    rw [HE.out]
    exact ⟨_, _, rfl, Gr.zero _ _ _ _, set4_below (K2.out.setCell (p := ⟨w.heap.size, 1, none⟩) (Nat.le_refl _) _) (by omega) _ _ _ _⟩
  · have HE := Lib.hid (show cutOf g n = (⟨g.nodes, l, g.nn, g.ne⟩, 0) by unfold cutOf; rw [← HL.out, if_neg hlen])
    replace hlen : ((l.length : Int) == (g.edges.length : Int)) = false := beq_eq_false_iff_ne.mpr (by omega)
    go_wp2
    have hSm : Same (fun k => w.heap.size + 1 + 1 + 1 ≤ k) w2 (set4 (w2.setCell ⟨w.heap.size, 1, none⟩ (.slice B3 l.length d3)) (w.heap.size + 1 + 1) (.slice B1 g.nodes.length d1) (.slice B3 l.length d3) (.int .i64 g.nn) (.int .i64 g.ne)) := fun k hk _ => by
      rw [set4_heap _ _ _ _ _ _ k (by omega), HBL.out k (by omega)]
    refine bodyPost_ret (v := .tuple #[.agg #[.slice B1 g.nodes.length d1, .slice B3 l.length d3, .int .i64 g.nn, .int .i64 g.ne], .int .i64 0]) (by simp [results, Try.results32, go_sem, x0, x1, x2, x3, y0, y1, y2, y3]; try rfl) rfl ?_
    rw [HE.out]
    refine ⟨_, _, rfl, Gr.mono (S := fun k => w.heap.size + 1 + 1 + 1 ≤ k) (Gr.move (w := w2) ⟨HOB.out.gr.1, (HO2.out.mono fun k hk _ => (by omega : w.heap.size + 1 + 1 + 1 ≤ k)).row⟩ hSm) (fun k hk _ => by omega), ?_⟩
    exact set4_below (K2.out.setCell (p := ⟨w.heap.size, 1, none⟩) (Nat.le_refl _) _) (by omega) _ _ _ _
end Go.Proofs.Ytpehmmdbjakkpaa
