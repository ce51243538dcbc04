/- graph.Drop. -/
import Derived.Test.YtpehmmdbjakkpaaCutG
namespace Go.Proofs.Ytpehmmdbjakkpaa
open Go.RowKit Go.Shelf
set_option linter.unusedSimpArgs false
set_option linter.unusedVariables false
def dropOf (g : GraphD) (n : Int) : GraphD × Int := if atOf g.nodes n < 0 then (GraphD.zero, 2) else (⟨g.nodes.filter fun x => !(x.id == n), g.edges.filter fun x => !(x.frm == n || x.to == n), g.nn, g.ne⟩, 0)
set_option maxRecDepth 20000 in
set_option maxHeartbeats 8000000 in
theorem drop_calls (w : World) (S : Nat → Prop) (g : GraphD) (vn ve : Value) (n : Int) (h : Gr w S g vn ve) (hs : g.small) : Calls Try.prog 34 #[.agg #[vn, ve, .int .i64 g.nn, .int .i64 g.ne], .int .i64 n] w (Ret2 w (dropOf g n)) := by
  obtain ⟨⟨A1, c1, rfl⟩, ⟨A2, c2, rfl⟩⟩ := h.slices
  have HS := Lib.hid hs
  have hs1 := hs.1
  have hs2 := hs.2.1
  have hW0 : Below w.heap.size w (((w.alloc (.cells #[.slice A1 g.nodes.length c1, .slice A2 g.edges.length c2, .int .i64 g.nn, .int .i64 g.ne] 27)).alloc (.cells #[.int .i64 n] 3)).alloc (.cells #[.slice none 0 0, .slice none 0 0, .int .i64 0, .int .i64 0] 27)) := (((Below.refl w.heap.size w).alloc (Nat.le_refl _) _).alloc (by simp) _).alloc (by simp; omega) _
  have KW := Lib.hid hW0
  have BX := Lib.hid ((Box4.made w 27 (.slice A1 g.nodes.length c1) (.slice A2 g.edges.length c2) (.int .i64 g.nn) (.int .i64 g.ne)).keep (W' := (((w.alloc (.cells #[.slice A1 g.nodes.length c1, .slice A2 g.edges.length c2, .int .i64 g.nn, .int .i64 g.ne] 27)).alloc (.cells #[.int .i64 n] 3)).alloc (.cells #[.slice none 0 0, .slice none 0 0, .int .i64 0, .int .i64 0] 27))) (by rw [Below.heap_alloc _ _ _ (by simp; omega), Below.heap_alloc _ _ _ (by simp)]))
  have BR := Lib.hid (Box4.made ((w.alloc (.cells #[.slice A1 g.nodes.length c1, .slice A2 g.edges.length c2, .int .i64 g.nn, .int .i64 g.ne] 27)).alloc (.cells #[.int .i64 n] 3)) 27 (.slice none 0 0) (.slice none 0 0) (.int .i64 0) (.int .i64 0))
  have CB := Lib.hid (show (((w.alloc (.cells #[.slice A1 g.nodes.length c1, .slice A2 g.edges.length c2, .int .i64 g.nn, .int .i64 g.ne] 27)).alloc (.cells #[.int .i64 n] 3)).alloc (.cells #[.slice none 0 0, .slice none 0 0, .int .i64 0, .int .i64 0] 27)).cell? ⟨w.heap.size + 1, 0, none⟩ = some (.int .i64 n) by simp [go_sem])
  have H0 := Lib.hid (h.below hW0)
  clear hW0 h hs
  simp only [World.size_alloc] at BR
  go_enter Try.func34, Try.ntmps34
  go_wp2_with fail
  refine (at_calls _ S g _ _ n H0.out hs1).mono ?_
  rintro e w1 ⟨rfl, hb1⟩
  have s1 := hb1.size
  have K1 := Lib.hid (KW.out.trans (hb1.mono (by simp <;> omega)))
  have BX1 := Lib.hid (BX.out.keep (hb1.block w.heap.size (by simp <;> omega)))
  have BR1 := Lib.hid (BR.out.keep (hb1.block (w.heap.size + 1 + 1) (by simp <;> omega)))
  have CB1 := Lib.hid ((hb1.cell (p := ⟨w.heap.size + 1, 0, none⟩) (by simp <;> omega)).trans CB.out)
  have H1 := Lib.hid (H0.out.below hb1)
  clear hb1 BX BR CB KW H0
  simp only [World.size_alloc] at s1
  have g1 : w.heap.size < w1.heap.size := by omega
  have g2 : w.heap.size + 1 < w1.heap.size := by omega
  have g3 : w.heap.size + 1 + 1 < w1.heap.size := by omega
  by_cases ha : atOf g.nodes n < 0
  · have HE := Lib.hid (show dropOf g n = (GraphD.zero, 2) by unfold dropOf; rw [if_pos ha])
    have hd : decide (atOf g.nodes n < 0) = true := decide_eq_true ha
    clear ha
    generalize atOf g.nodes n = p at *
    obtain ⟨y0, y1, y2, y3, yf⟩ := BR1.out
    go_wp2
    refine bodyPost_ret (v := .tuple #[.agg #[.slice none 0 0, .slice none 0 0, .int .i64 0, .int .i64 0], .int .i64 2]) (by simp [results, Try.results34, go_sem, y0, y1, y2, y3]; try rfl) rfl ?_
    rw [HE.out]
    exact ⟨_, _, rfl, Gr.zero _ _ _ _, set4_below K1.out (by omega) _ _ _ _⟩
  have HE := Lib.hid (show dropOf g n = (⟨g.nodes.filter fun x => !(x.id == n), g.edges.filter fun x => !(x.frm == n || x.to == n), g.nn, g.ne⟩, 0) by unfold dropOf; rw [if_neg ha])
  have hd : decide (atOf g.nodes n < 0) = false := decide_eq_false ha
  clear ha
  generalize atOf g.nodes n = p at *
  obtain ⟨x0, x1, x2, x3, xf⟩ := BX1.out
  go_wp2_with fail
  refine (own_calls _ S g _ _ H1.out HS.out).mono ?_
  rintro e w3 ⟨vn1, ve1, nvs, rfl, ho1, hb3⟩
  obtain ⟨⟨B1, d1, rfl⟩, ⟨B2, d2, rfl⟩⟩ := ho1.gr.slices
  have s3 := hb3.size
  have K3 := Lib.hid (K1.out.trans (hb3.mono (by omega)))
  have BX3 := Lib.hid (BX1.out.keep (hb3.block w.heap.size g1))
  have BR3 := Lib.hid (BR1.out.keep (hb3.block (w.heap.size + 1 + 1) g3))
  have CB3 := Lib.hid ((hb3.cell (p := ⟨w.heap.size + 1, 0, none⟩) g2).trans CB1.out)
  have HO1 := Lib.hid ho1
  clear hb3 ho1 BX1 BR1 CB1 K1 x0 x1 x2 x3 xf hd
  obtain ⟨x0, x1, x2, x3, xf⟩ := BX3.out
  go_wp2_with fail
  obtain ⟨W1, hW⟩ : ∃ W1, W1 = set4 w3 w.heap.size (.slice B1 g.nodes.length d1) (.slice B2 g.edges.length d2) (.int .i64 g.nn) (.int .i64 g.ne) := ⟨_, rfl⟩
  have BW := Lib.hid (show Box4 W1 w.heap.size (.slice B1 g.nodes.length d1) (.slice B2 g.edges.length d2) (.int .i64 g.nn) (.int .i64 g.ne) by rw [hW]; exact BX3.out.set _ _ _ _)
  have BQ := Lib.hid (show Box4 W1 (w.heap.size + 1 + 1) (.slice none 0 0) (.slice none 0 0) (.int .i64 0) (.int .i64 0) by rw [hW]; exact BR3.out.other4 (by omega) _ _ _ _)
  have CW := Lib.hid (show W1.cell? ⟨w.heap.size + 1, 0, none⟩ = some (.int .i64 n) by rw [hW]; exact (World.cell?_of_block (set4_heap w3 w.heap.size _ _ _ _ (w.heap.size + 1) (by omega))).trans CB3.out)
  have KW1 := Lib.hid (show Below w.heap.size w W1 by rw [hW]; exact set4_below K3.out (Nat.le_refl _) _ _ _ _)
  have sW : W1.heap.size = w3.heap.size := by rw [hW, set4_size]
  have HOW := Lib.hid (HO1.out.move (w' := W1) fun k hk _ => by rw [hW]; exact set4_heap _ _ _ _ _ _ k (by omega))
  have HNL := Lib.hid HO1.out.len
  unfold set4 at hW
  rw [← hW]
  clear hW x0 x1 x2 x3 xf BX3 BR3 CB3 K3 HO1
  refine (withoutN_calls W1 _ (fun k => k = w.heap.size + 1) _ nvs _ _ (fun v => v.id == n) dropNC_enters (fun W x hK => ?_) HOW.out.nodes.row (by intro k hk; have h9 : k = w.heap.size + 1 := hk; omega) (by rw [HNL.out]; exact hs1)).mono ?_
  · refine dropNC_calls W x n (w.heap.size + 1) (by have := hK.1; omega) ?_
    rw [hK.cell _ _ rfl (by omega)]
    exact CW.out
  rintro e w5 ⟨v5, rfl, ho5, hb5⟩
  obtain ⟨B5, d5, rfl⟩ := ho5.slice
  have s5 := hb5.size
  have K5 := Lib.hid (KW1.out.trans (hb5.mono (by omega)))
  have BX5 := Lib.hid (BW.out.keep (hb5.block w.heap.size (by omega)))
  have BR5 := Lib.hid (BQ.out.keep (hb5.block (w.heap.size + 1 + 1) (by omega)))
  have CB5 := Lib.hid ((hb5.cell (p := ⟨w.heap.size + 1, 0, none⟩) (by simp only; omega)).trans CW.out)
  have HN5 := Lib.hid ho5
  have HOB := Lib.hid (HOW.out.below hb5)
  clear ho5 hb5 BW BQ HOW CW KW1
  obtain ⟨l, hl⟩ : ∃ l, l = nvs.filter (fun v => !(v.id == n)) := ⟨_, rfl⟩
  have HL := Lib.hid hl
  rw [← hl] at HN5 ⊢
  clear hl
  obtain ⟨x0, x1, x2, x3, xf⟩ := BX5.out
  have g4 : w.heap.size < w5.heap.size := by omega
  have BX6 := Lib.hid (BX5.out.set0 (.slice B5 l.length d5))
  have BR6 := Lib.hid (BR5.out.other (b' := w.heap.size) (by omega) 0 (.slice B5 l.length d5))
  have CB6 := Lib.hid ((World.cell?_of_block (Below.heap_setCell w5 ⟨w.heap.size, 0, none⟩ (.slice B5 l.length d5) (w.heap.size + 1) (by simp))).trans CB5.out)
  have K6 := Lib.hid (K5.out.setCell (p := ⟨w.heap.size, 0, none⟩) (Nat.le_refl _) (.slice B5 l.length d5))
  have hSa : Same (fun k => w1.heap.size ≤ k) w5 (w5.setCell ⟨w.heap.size, 0, none⟩ (.slice B5 l.length d5)) := Same.of_setCell _ _ _ (fun k hk => by simp only; omega)
  have HO6 := Lib.hid (HOB.out.move hSa)
  have HN6 := Lib.hid ((HN5.out.mono fun k hk _ => (by omega : w1.heap.size ≤ k)).move hSa)
  clear hSa BX5 BR5 CB5 HN5 HOB K5
  go_wp2_with fail
  obtain ⟨W6, hW⟩ : ∃ W6, W6 = w5.setCell ⟨w.heap.size, 0, none⟩ (.slice B5 l.length d5) := ⟨_, rfl⟩
  have sW6 : W6.heap.size = w5.heap.size := by rw [hW, World.size_setCell]
  rw [← hW] at BX6 BR6 CB6 K6 HO6 HN6 ⊢
  clear hW x0 x1 x2 x3 xf
  refine (withoutE_calls W6 _ (fun k => k = w.heap.size + 1) _ g.edges _ _ (fun x => x.frm == n || x.to == n) dropEC_enters (fun W x hK => ?_) HO6.out.edges.row (by intro k hk; have h9 : k = w.heap.size + 1 := hk; omega) hs2).mono ?_
  · refine dropEC_calls W x n (w.heap.size + 1) (by have := hK.1; omega) ?_
    rw [hK.cell _ _ rfl (by omega)]
    exact CB6.out
  rintro e w7 ⟨v7, rfl, ho7, hb7⟩
  obtain ⟨B7, d7, rfl⟩ := ho7.slice
  have s7 := hb7.size
  have K7 := Lib.hid (K6.out.trans (hb7.mono (by omega)))
  have BX7 := Lib.hid (BX6.out.keep (hb7.block w.heap.size (by omega)))
  have BR7 := Lib.hid (BR6.out.keep (hb7.block (w.heap.size + 1 + 1) (by omega)))
  have HO7 := Lib.hid (ho7.mono fun k hk _ => (by omega : w1.heap.size ≤ k))
  have HN7 := Lib.hid (HN6.out.below hb7)
  have HP7 := Lib.hid (show NVs w7 (fun k => w1.heap.size ≤ k) l (g.nodes.filter fun x => !(x.id == n)) by
    rw [HL.out]
    have h9 : NVs W6 (fun k => w1.heap.size ≤ k) nvs g.nodes := ⟨HO6.out.len, fun j v x hv hx => ⟨(HO6.out.each j v x hv hx).1, (HO6.out.each j v x hv hx).2.row⟩⟩
    exact (h9.filter n).below hb7)
  clear ho7 hb7 BX6 BR6 CB6 K6 HO6 HN6
  obtain ⟨m, hm⟩ : ∃ m, m = g.edges.filter (fun x => !(x.frm == n || x.to == n)) := ⟨_, rfl⟩
  rw [← hm] at HO7 HE ⊢
  clear hm
  obtain ⟨x0, x1, x2, x3, xf⟩ := BX7.out
  obtain ⟨y0, y1, y2, y3, yf⟩ := BR7.out
  go_wp2
  have hSm : Same (fun k => w1.heap.size ≤ k) w7 (set4 (w7.setCell ⟨w.heap.size, 1, none⟩ (.slice B7 m.length d7)) (w.heap.size + 1 + 1) (.slice B5 l.length d5) (.slice B7 m.length d7) (.int .i64 g.nn) (.int .i64 g.ne)) := fun k hk _ => by
    have h1 : k ≠ w.heap.size := by omega
    rw [set4_heap _ _ _ _ _ _ k (by omega), Below.heap_setCell _ ⟨w.heap.size, 1, none⟩ _ k h1]
  refine bodyPost_ret (v := .tuple #[.agg #[.slice B5 l.length d5, .slice B7 m.length d7, .int .i64 g.nn, .int .i64 g.ne], .int .i64 0]) (by simp [results, Try.results34, go_sem, x0, x1, x2, x3, y0, y1, y2, y3]; try rfl) rfl ?_
  rw [HE.out]
  refine ⟨_, _, rfl, Gr.mono (S := fun k => w1.heap.size ≤ k) (Gr.move (w := w7) ⟨⟨l, HN7.out.row, HP7.out⟩, HO7.out.row⟩ hSm) (fun k hk _ => by omega), ?_⟩
  exact set4_below (K7.out.setCell (p := ⟨w.heap.size, 1, none⟩) (Nat.le_refl _) _) (by omega) _ _ _ _
end Go.Proofs.Ytpehmmdbjakkpaa
