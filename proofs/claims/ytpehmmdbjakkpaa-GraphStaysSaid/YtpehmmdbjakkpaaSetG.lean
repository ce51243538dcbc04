/- graph.Set. -/
import Derived.Test.YtpehmmdbjakkpaaOwnSet
import Derived.Test.YtpehmmdbjakkpaaCutG
namespace Go.Proofs.Ytpehmmdbjakkpaa
open Go.RowKit Go.Shelf
set_option linter.unusedSimpArgs false
set_option linter.unusedVariables false
theorem getOf_at2 {g : GraphD} {n : Int} {i : Nat} {x : NodeD} (h : atOf g.nodes n = (i : Int)) (hx : g.nodes[i]? = some x) : (getOf g n).1 = x.ps := by rw [getOf_some h hx]
set_option maxRecDepth 20000 in
set_option maxHeartbeats 8000000 in
theorem set_calls (w : World) (S : Nat → Prop) (g : GraphD) (vn ve : Value) (n k v : Int) (h : Gr w S g vn ve) (hs : g.small) (hr : ∀ x ∈ g.nodes, Rises x.ps x.ps.length) (hp : ∀ x ∈ g.nodes, x.ps.length ≤ 100) : Calls Try.prog 39 #[.agg #[vn, ve, .int .i64 g.nn, .int .i64 g.ne], .int .i64 n, .int .i64 k, .int .i64 v] w (Ret2 w (setOf g n k v)) := by
  obtain ⟨⟨A1, c1, rfl⟩, ⟨A2, c2, rfl⟩⟩ := h.slices
  have H := Lib.hid h
  have HS := Lib.hid hs
  have HRI := Lib.hid hr
  have HPL := Lib.hid hp
  have hs2 := hs.2.1
  have hs1 := hs.1
  clear h hs hr hp
  go_enter Try.func39, Try.ntmps39
  go_wp2_with fail
  obtain ⟨W0, hW⟩ : ∃ W0, W0 = ((w.alloc (.cells #[.slice A1 g.nodes.length c1, .slice A2 g.edges.length c2, .int .i64 g.nn, .int .i64 g.ne] 27)).alloc (.cells #[.slice none 0 0, .slice none 0 0, .int .i64 0, .int .i64 0] 27)) := ⟨_, rfl⟩
  have KW := Lib.hid (show Below w.heap.size w W0 by rw [hW]; exact ((Below.refl w.heap.size w).alloc (Nat.le_refl _) _).alloc (by simp) _)
  have BX := Lib.hid (show Box4 W0 w.heap.size (.slice A1 g.nodes.length c1) (.slice A2 g.edges.length c2) (.int .i64 g.nn) (.int .i64 g.ne) by
    rw [hW]
    exact (Box4.made w 27 (.slice A1 g.nodes.length c1) (.slice A2 g.edges.length c2) (.int .i64 g.nn) (.int .i64 g.ne)).keep (by rw [Below.heap_alloc _ _ _ (by simp)]))
  have BR := Lib.hid (show Box4 W0 (w.heap.size + 1) (.slice none 0 0) (.slice none 0 0) (.int .i64 0) (.int .i64 0) by
    rw [hW]
    have := (Box4.made (w.alloc (.cells #[.slice A1 g.nodes.length c1, .slice A2 g.edges.length c2, .int .i64 g.nn, .int .i64 g.ne] 27)) 27 (.slice none 0 0) (.slice none 0 0) (.int .i64 0) (.int .i64 0))
    simp only [World.size_alloc] at this
    exact this)
  have s0 : W0.heap.size = w.heap.size + 1 + 1 := by rw [hW]; simp
  rw [← hW]
  clear hW
  refine (at_calls W0 S g _ _ n (H.out.below KW.out) hs1).mono ?_
  rintro e wA ⟨rfl, hbA⟩
  have sA := hbA.size
  have KA := Lib.hid (KW.out.trans (hbA.mono KW.out.size))
  have BXA := Lib.hid (BX.out.keep (hbA.block _ (by omega)))
  have BRA := Lib.hid (BR.out.keep (hbA.block _ (by omega)))
  clear hbA BX BR KW
  have ga : w.heap.size < wA.heap.size := by omega
  have gb : w.heap.size + 1 < wA.heap.size := by omega
  obtain ⟨x0, x1, x2, x3, xf⟩ := BXA.out
  by_cases ha : atOf g.nodes n < 0
  · have HE := Lib.hid (show setOf g n k v = (GraphD.zero, 2) by unfold setOf; rw [if_pos ha])
    have hd : decide (atOf g.nodes n < 0) = true := decide_eq_true ha
    clear ha
    generalize atOf g.nodes n = p at *
    obtain ⟨y0, y1, y2, y3, yf⟩ := BRA.out
    go_wp2
    refine bodyPost_ret (v := .tuple #[.agg #[.slice none 0 0, .slice none 0 0, .int .i64 0, .int .i64 0], .int .i64 2]) (by simp [results, Try.results39, go_sem, y0, y1, y2, y3]; try rfl) rfl ?_
    rw [HE.out]
    exact ⟨_, _, rfl, Gr.zero _ _ _ _, set4_below KA.out (by omega) _ _ _ _⟩
  obtain ⟨i, x, hi, hx, hid⟩ := atOf_at ha
  have HE := Lib.hid (show setOf g n k v = (⟨g.nodes.set i ⟨x.id, putP x.ps k v⟩, g.edges, g.nn, g.ne⟩, 0) by unfold setOf; rw [if_neg ha, getOf_at2 hi hx, setN_at hi hx hid])
  rw [hi]
  have hil : i < g.nodes.length := (List.getElem?_eq_some_iff.1 hx).1
  have HX := Lib.hid hx
  have hpx := HPL.out x (List.mem_of_getElem? hx)
  have HRX := Lib.hid (HRI.out x (List.mem_of_getElem? hx))
  clear ha hi hx hid
  go_wp2_with fail
  refine (own_calls wA S g _ _ (H.out.below KA.out) HS.out).mono ?_
  rintro e w1 ⟨vn1, ve1, nvs, rfl, ho1, hb1⟩
  obtain ⟨⟨B1, d1, rfl⟩, ⟨B2, d2, rfl⟩⟩ := ho1.gr.slices
  have s1 := hb1.size
  have K1 := Lib.hid (KA.out.trans (hb1.mono KA.out.size))
  have BX1 := Lib.hid (BXA.out.keep (hb1.block _ ga))
  have BR1 := Lib.hid (BRA.out.keep (hb1.block _ gb))
  have hnl : nvs.length = g.nodes.length := ho1.len
  obtain ⟨gN, hB1, hgB, hgl⟩ := ho1.nodes.head (by omega)
  subst hB1
  obtain ⟨vi, hvi⟩ := getElem?_of_lt (show i < nvs.length by omega)
  have HVI := Lib.hid hvi
  have HO1 := Lib.hid ho1
  clear hb1 BXA BRA x0 x1 x2 x3 xf
  obtain ⟨W3, hW3⟩ : ∃ W3, W3 = set4 w1 w.heap.size (.slice (some ⟨gN, 0, none⟩) g.nodes.length d1) (.slice B2 g.edges.length d2) (.int .i64 g.nn) (.int .i64 g.ne) := ⟨_, rfl⟩
  have HO3 := Lib.hid (show OwnG W3 wA.heap.size g (.slice (some ⟨gN, 0, none⟩) g.nodes.length d1) (.slice B2 g.edges.length d2) nvs from HO1.out.move fun k hk _ => by rw [hW3]; exact set4_heap _ _ _ _ _ _ k (by omega))
  have BX3 := Lib.hid (show Box4 W3 w.heap.size (.slice (some ⟨gN, 0, none⟩) g.nodes.length d1) (.slice B2 g.edges.length d2) (.int .i64 g.nn) (.int .i64 g.ne) by rw [hW3]; exact BX1.out.set _ _ _ _)
  have BR3 := Lib.hid (show Box4 W3 (w.heap.size + 1) (.slice none 0 0) (.slice none 0 0) (.int .i64 0) (.int .i64 0) by rw [hW3]; exact BR1.out.other4 (by omega) _ _ _ _)
  have K3 := Lib.hid (show Below w.heap.size w W3 by rw [hW3]; exact set4_below K1.out (Nat.le_refl _) _ _ _ _)
  have s3 : W3.heap.size = w1.heap.size := by rw [hW3, set4_size]
  have HW3 := Lib.hid hW3
  clear hW3
  have hoi : Own tP 47 W3 (fun k => wA.heap.size ≤ k) (.slice vi.A vi.n vi.c) x.ps := (HO3.out.each i vi x hvi HX.out).2
  have hvn : vi.n = x.ps.length := hoi.n_eq
  obtain ⟨b', off', hA, _, _, _, y1⟩ := ho1.nodes.row.atNV hvi
  injection hA with hA
  injection hA with h1 h2
  subst h1 h2
  simp only [Nat.zero_add] at y1
  obtain ⟨vA, vc, hvA, hvc⟩ : ∃ A c, A = vi.A ∧ c = vi.c := ⟨_, _, rfl, rfl⟩
  rw [← hvA, hvn, ← hvc] at y1 hoi
  have HVS := Lib.hid (And.intro hvA (And.intro hvn hvc))
  have HOI := Lib.hid hoi
  have HNB := Lib.hid (show ∀ k, (Value.slice vA x.ps.length vc).ownBlock = some k → k ≠ gN ∧ wA.heap.size ≤ k ∧ k < w1.heap.size from fun k hk => ⟨fun e => (HO3.out.np i vi k hvi (by rw [← hvA, hvn, ← hvc]; exact hk)).1 (by rw [e]; rfl), HOI.out.1 k hk, by rw [← s3]; exact HOI.out.lt k hk⟩)
  have hf0 := HO3.out.nodes.frozenC (i * 2 + 1)
  obtain ⟨x0, x1, x2, x3, xf⟩ := BX1.out
  have g1 : w.heap.size < w1.heap.size := by omega
  have g2 : ¬ w.heap.size = gN := by omega
  have g3 : ¬ gN = w.heap.size := by omega
  clear hvi hvA hvn hvc hoi ho1 hnl
  go_wp2_with fail
  have y3 : W3.cell? ⟨gN, i * 2 + 1, none⟩ = some (.slice vA x.ps.length vc) := by rw [HW3.out, World.cell?_of_block (set4_heap w1 w.heap.size _ _ _ _ gN g3)]; exact y1
  have eW := HW3.out.symm
  unfold set4 at eW
  rw [eW]
  clear eW x0 x1 x2 x3 xf y1
  refine (find_calls _ _ _ x.ps k HOI.out.row HRX.out (by omega)).mono ?_
  rintro e w4 ⟨m, bb, rfl, hf, hb4⟩
  have s4 := hb4.size
  have K4 := Lib.hid (K3.out.trans (hb4.mono K3.out.size))
  have HO4 := Lib.hid (HO3.out.below hb4)
  have HOI4 := Lib.hid (HOI.out.below hb4)
  have BX4 := Lib.hid (BX3.out.keep (hb4.block _ (by omega)))
  have BR4 := Lib.hid (BR3.out.keep (hb4.block _ (by omega)))
  have y4 : w4.cell? ⟨gN, i * 2 + 1, none⟩ = some (.slice vA x.ps.length vc) := (hb4.cell (p := ⟨gN, i * 2 + 1, none⟩) (by simp only; omega)).trans y3
  have hf4 : w4.frozen? ⟨gN, i * 2 + 1, none⟩ = false := (hb4.frozen (p := ⟨gN, i * 2 + 1, none⟩) (by simp only; omega)).trans hf0
  have HFA := Lib.hid hf
  have HML := Lib.hid hf.le
  have q1 : gN < w4.heap.size := by omega
  clear hb4 hf y3 hf0
  cases bb
  case false =>
    have HIN := Lib.hid (show x.ps.take m ++ ⟨k, v⟩ :: x.ps.drop m = putP x.ps k v from put_insert v HFA.out HRX.out)
    go_wp2_with fail
    have KC := Lib.hid (Below.heap1 w4 (.cells #[.int .i64 k, .int .i64 v] 47))
    refine (insert_calls _ (fun k => wA.heap.size ≤ k) _ x.ps ⟨k, v⟩ m w4.heap.size (HOI4.out.below KC.out) HML.out (by omega) (heap_alloc_new w4 _) (fun e => by have := HOI4.out.lt _ e; omega) (by show wA.heap.size ≤ w4.heap.size; omega) (by show wA.heap.size ≤ _; simp; omega)).mono ?_
    rintro e w7 ⟨v', rfl, ho7, hg7, hor7⟩
    obtain ⟨A', c', rfl⟩ := ho7.slice
    have s7 := hg7.size
    simp only [World.size_alloc] at s7
    have HN := Lib.hid ((HO4.out.below KC.out).putPairs HVI.out HX.out (A' := A') (c' := c') (n' := (x.ps.take m ++ ⟨k, v⟩ :: x.ps.drop m).length) ho7 (by rw [← HVS.out.1, HVS.out.2.1, ← HVS.out.2.2]; exact hg7) (by
      rw [← HVS.out.1, HVS.out.2.1, ← HVS.out.2.2]
      rcases hor7 with h | h
      · exact .inl h
      · exact .inr ⟨_, h, Nat.le_refl _⟩))
    have hk7 : ∀ k, k < wA.heap.size ∨ k = gN → w7.heap[k]? = w4.heap[k]? := fun k hk => (hg7.block k (by simp; omega) (fun e => by have := HNB.out k e.symm; omega)).trans (Below.heap_alloc _ _ _ (by omega))
    have BX7 := Lib.hid (BX4.out.keep (hk7 _ (.inl ga)))
    have BR7 := Lib.hid (BR4.out.keep (hk7 _ (.inl gb)))
    have y7 : w7.cell? ⟨gN, i * 2 + 1, none⟩ = some (.slice vA x.ps.length vc) := (World.cell?_of_block (hk7 gN (.inr rfl))).trans y4
    have hf7 : w7.frozen? ⟨gN, i * 2 + 1, none⟩ = false := (World.frozen?_of_block (hk7 gN (.inr rfl))).trans hf4
    have HB8 := Lib.hid (((K4.out.trans (KC.out.mono (by omega))).grown hg7 (by simp; omega) (fun k hk => by have := HNB.out k hk; omega)).setCell (p := ⟨gN, i * 2 + 1, none⟩) (by simp only; omega) (.slice A' (x.ps.take m ++ ⟨k, v⟩ :: x.ps.drop m).length c'))
    rw [HIN.out] at HN HB8
    obtain ⟨L, hL⟩ : ∃ L, L = (putP x.ps k v).length := ⟨_, rfl⟩
    have hL2 : (x.ps.take m ++ ⟨k, v⟩ :: x.ps.drop m).length = L := by rw [HIN.out, hL]
    rw [hL2]
    rw [← hL] at HN HB8
    have BX8 := Lib.hid (BX7.out.other (b' := gN) g2 (i * 2 + 1) (.slice A' L c'))
    have BR8 := Lib.hid (BR7.out.other (b' := gN) (by omega) (i * 2 + 1) (.slice A' L c'))
    have q7 : gN < w7.heap.size := by omega
    have s8 : (w7.setCell ⟨gN, i * 2 + 1, none⟩ (.slice A' L c')).heap.size = w7.heap.size := by simp
    clear ho7 hg7 hor7 hL hL2 hk7 y4 hf4
    obtain ⟨x0, x1, x2, x3, xf⟩ := BX7.out
    obtain ⟨y0, y1, y2, y3, yf⟩ := BR7.out
    have q8 : w.heap.size < w7.heap.size := by omega
    have q9 : w.heap.size + 1 < w7.heap.size := by omega
    have g4 : ¬ w.heap.size + 1 = gN := by omega
    have g5 : ¬ gN = w.heap.size + 1 := by omega
    go_wp2
    obtain ⟨y0, y1, y2, y3, yf⟩ := BR8.out
    refine bodyPost_ret (v := .tuple #[.agg #[.slice (some ⟨gN, 0, none⟩) g.nodes.length d1, .slice B2 g.edges.length d2, .int .i64 g.nn, .int .i64 g.ne], .int .i64 0]) (by simp [results, Try.results39, go_sem, y0, y1, y2, y3]; try rfl) rfl ?_
    rw [HE.out]
    have hSm : Same (fun k => wA.heap.size ≤ k) (w7.setCell ⟨gN, i * 2 + 1, none⟩ (.slice A' L c')) (set4 (w7.setCell ⟨gN, i * 2 + 1, none⟩ (.slice A' L c')) (w.heap.size + 1) (.slice (some ⟨gN, 0, none⟩) g.nodes.length d1) (.slice B2 g.edges.length d2) (.int .i64 g.nn) (.int .i64 g.ne)) := fun k hk hl => set4_heap _ _ _ _ _ _ k (by omega)
    exact ⟨_, _, rfl, (HN.out.gr.move hSm).mono (fun k hk _ => by omega), set4_below HB8.out (by omega) _ _ _ _⟩
  case true =>
    obtain ⟨pm, hpm, hpk⟩ := HFA.out.is.1 rfl
    have hml : m < x.ps.length := (List.getElem?_eq_some_iff.1 hpm).1
    obtain ⟨gP, rfl, _, hgPl⟩ := HOI4.out.head (by omega)
    have hgP := HNB.out gP rfl
    obtain ⟨bP, oP, hAP, _, _, u0, u1⟩ := HOI4.out.row.atP hpm
    injection hAP with hAP
    injection hAP with h1 h2
    subst h1 h2
    simp only [Nat.zero_add] at u0 u1
    have hfp := HOI4.out.frozenC (m * 2 + 1)
    have N0 := HOI4.out.setFlat (p := m) (i := 1) (y := pm) (y' := ⟨k, v⟩) (u := .int .i64 v) hpm (by decide) (by simp [P2.cells, hpk])
    have HPS := Lib.hid (show x.ps.set m ⟨k, v⟩ = putP x.ps k v from put_set v HFA.out HRX.out)
    rw [HPS.out] at N0
    have HN := Lib.hid (HO4.out.inPairs (w' := w4.setCell ⟨gP, m * 2 + 1, none⟩ (.int .i64 v)) HVI.out HX.out (ys := putP x.ps k v) (by rw [← HVS.out.1, HVS.out.2.1, ← HVS.out.2.2]; exact N0) (fun k hk hne => Below.heap_setCell w4 ⟨gP, m * 2 + 1, none⟩ _ k (fun e => hne (by rw [← HVS.out.1, HVS.out.2.1, ← HVS.out.2.2, e]; rfl))))
    have BX8 := Lib.hid (BX4.out.other (b' := gP) (by omega) (m * 2 + 1) (.int .i64 v))
    have BR8 := Lib.hid (BR4.out.other (b' := gP) (by omega) (m * 2 + 1) (.int .i64 v))
    have HB8 := Lib.hid (K4.out.setCell (p := ⟨gP, m * 2 + 1, none⟩) (by simp only; omega) (.int .i64 v))
    clear N0 hpm hpk
    obtain ⟨x0, x1, x2, x3, xf⟩ := BX4.out
    obtain ⟨y0, y1, y2, y3, yf⟩ := BR4.out
    have q8 : w.heap.size < w4.heap.size := by omega
    have q9 : w.heap.size + 1 < w4.heap.size := by omega
    have g4 : ¬ w.heap.size = gP := by omega
    have g5 : ¬ gP = w.heap.size := by omega
    have g6 : ¬ w.heap.size + 1 = gP := by omega
    have g7 : ¬ gP = w.heap.size + 1 := by omega
    go_wp2
    obtain ⟨y0, y1, y2, y3, yf⟩ := BR8.out
    refine bodyPost_ret (v := .tuple #[.agg #[.slice (some ⟨gN, 0, none⟩) g.nodes.length d1, .slice B2 g.edges.length d2, .int .i64 g.nn, .int .i64 g.ne], .int .i64 0]) (by simp [results, Try.results39, go_sem, y0, y1, y2, y3]; try rfl) rfl ?_
    rw [HE.out]
    have hSm : Same (fun k => wA.heap.size ≤ k) (w4.setCell ⟨gP, m * 2 + 1, none⟩ (.int .i64 v)) (set4 (w4.setCell ⟨gP, m * 2 + 1, none⟩ (.int .i64 v)) (w.heap.size + 1) (.slice (some ⟨gN, 0, none⟩) g.nodes.length d1) (.slice B2 g.edges.length d2) (.int .i64 g.nn) (.int .i64 g.ne)) := fun k hk hl => set4_heap _ _ _ _ _ _ k (by omega)
    exact ⟨_, _, rfl, (HN.out.gr.move hSm).mono (fun k hk _ => by omega), set4_below HB8.out (by omega) _ _ _ _⟩
end Go.Proofs.Ytpehmmdbjakkpaa
