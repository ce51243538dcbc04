/- graph.Set. slices.Delete of one property of a slice of the call's own. graph.Del. -/
import Derived.Test.YtpehmmdbjakkpaaGreatOwnSet
import Derived.Test.YtpehmmdbjakkpaaGreatGetM
import Derived.Test.YtpehmmdbjakkpaaGreatInsertP
import Derived.Test.YtpehmmdbjakkpaaGreatBaseM
namespace Go.Proofs.YtpehmmdbjakkpaaGreat
open Go.RowKit Go.Shelf
set_option linter.unusedSimpArgs false
set_option linter.unusedVariables false
theorem getOf_at2 {g : GraphD} {n : Int} {i : Nat} {x : NodeD} (h : atOf g.nodes n = (i : Int)) (hx : g.nodes[i]? = some x) : (getOf g n).1 = x.ps := by rw [getOf_some h hx]
set_option maxRecDepth 20000 in
set_option maxHeartbeats 8000000 in
theorem set_calls (w : World) (S : Nat → Prop) (g : GraphD) (vn ve : Value) (n k v : Int) (h : Gr w S g vn ve) (hs : g.small) (hr : ∀ x ∈ g.nodes, Rises x.ps x.ps.length) (hp : ∀ x ∈ g.nodes, x.ps.length ≤ 100) : Calls Tryz.prog 93 #[.agg #[vn, ve, .int .i64 g.nn, .int .i64 g.ne], .int .i64 n, .int .i64 k, .int .i64 v] w (Ret2 w (setOf g n k v)) := by
 obtain ⟨⟨A1, c1, rfl⟩, ⟨A2, c2, rfl⟩⟩ := h.slices
 have H := Lib.hid h
 have HS := Lib.hid hs
 have HRI := Lib.hid hr
 have HPL := Lib.hid hp
 have hs2 := hs.2.1
 have hs1 := hs.1
 clear h hs hr hp
 go_enter Tryz.func93, Tryz.ntmps93
 go_wp2_with fail
 obtain ⟨W0, hW⟩ : ∃ W0, W0 = ((w.alloc (.cells #[.slice A1 g.nodes.length c1, .slice A2 g.edges.length c2, .int .i64 g.nn, .int .i64 g.ne] 31)).alloc (.cells #[.slice none 0 0, .slice none 0 0, .int .i64 0, .int .i64 0] 31)) := ⟨_, rfl⟩
 have KW := Lib.hid (show Below w.heap.size w W0 by rw [hW]; exact ((Below.refl w.heap.size w).alloc (Nat.le_refl _) _).alloc (by simp) _)
 have BX := Lib.hid (show Box4 W0 w.heap.size (.slice A1 g.nodes.length c1) (.slice A2 g.edges.length c2) (.int .i64 g.nn) (.int .i64 g.ne) by
  rw [hW]
  exact (Box4.made w 31 (.slice A1 g.nodes.length c1) (.slice A2 g.edges.length c2) (.int .i64 g.nn) (.int .i64 g.ne)).keep (by rw [Below.heap_alloc _ _ _ (by simp)]))
 have BR := Lib.hid (show Box4 W0 (w.heap.size + 1) (.slice none 0 0) (.slice none 0 0) (.int .i64 0) (.int .i64 0) by
  rw [hW]
  have := (Box4.made (w.alloc (.cells #[.slice A1 g.nodes.length c1, .slice A2 g.edges.length c2, .int .i64 g.nn, .int .i64 g.ne] 31)) 31 (.slice none 0 0) (.slice none 0 0) (.int .i64 0) (.int .i64 0))
  simp only [World.size_alloc] at this
  exact this)
 have s0 : W0.heap.size = w.heap.size + 1 + 1 := by rw [hW]; simp
 rw [← hW]
 clear hW
 refine (at_calls W0 S g _ _ n (H.out.below KW.out) hs1).mono ?_
 rintro e wA ⟨rfl, hbA⟩
 have sA := hbA.size
 have KA := Lib.hid (KW.out.trans (hbA.mono KW.out.size))
 have BXA := Lib.hid (BX.out.keep (hbA.block _ (by omega)))
 have BRA := Lib.hid (BR.out.keep (hbA.block _ (by omega)))
 clear hbA BX BR KW
 have ga : w.heap.size < wA.heap.size := by omega
 have gb : w.heap.size + 1 < wA.heap.size := by omega
 obtain ⟨x0, x1, x2, x3, xf⟩ := BXA.out
 by_cases ha : atOf g.nodes n < 0
 ·
  have HE := Lib.hid (show setOf g n k v = (GraphD.zero, 2) by unfold setOf; rw [if_pos ha])
  have hd : decide (atOf g.nodes n < 0) = true := decide_eq_true ha
  clear ha
  generalize atOf g.nodes n = p at *
  obtain ⟨y0, y1, y2, y3, yf⟩ := BRA.out
  go_wp2
  refine bodyPost_ret (v := .tuple #[.agg #[.slice none 0 0, .slice none 0 0, .int .i64 0, .int .i64 0], .int .i64 2]) (by simp [results, Tryz.results93, go_sem, y0, y1, y2, y3]; try rfl) rfl ?_
  rw [HE.out]
  exact ⟨_, _, rfl, Gr.zero _ _ _ _, set4_below KA.out (by omega) _ _ _ _⟩
 obtain ⟨i, x, hi, hx, hid⟩ := atOf_at ha
 have HE := Lib.hid (show setOf g n k v = (⟨g.nodes.set i ⟨x.id, putP x.ps k v⟩, g.edges, g.nn, g.ne⟩, 0) by unfold setOf; rw [if_neg ha, getOf_at2 hi hx, setN_at hi hx hid])
 rw [hi]
 have hil : i < g.nodes.length := (List.getElem?_eq_some_iff.1 hx).1
 have HX := Lib.hid hx
 have hpx := HPL.out x (List.mem_of_getElem? hx)
 have HRX := Lib.hid (HRI.out x (List.mem_of_getElem? hx))
 clear ha hi hx hid
 go_wp2_with fail
 refine (own_calls wA S g _ _ (H.out.below KA.out) HS.out).mono ?_
 rintro e w1 ⟨vn1, ve1, nvs, rfl, ho1, hb1⟩
 obtain ⟨⟨B1, d1, rfl⟩, ⟨B2, d2, rfl⟩⟩ := ho1.gr.slices
 have s1 := hb1.size
 have K1 := Lib.hid (KA.out.trans (hb1.mono KA.out.size))
 have BX1 := Lib.hid (BXA.out.keep (hb1.block _ ga))
 have BR1 := Lib.hid (BRA.out.keep (hb1.block _ gb))
 have hnl : nvs.length = g.nodes.length := ho1.len
 obtain ⟨gN, hB1, hgB, hgl⟩ := ho1.nodes.head (by omega)
 subst hB1
 obtain ⟨vi, hvi⟩ := getElem?_of_lt (show i < nvs.length by omega)
 have HVI := Lib.hid hvi
 have HO1 := Lib.hid ho1
 clear hb1 BXA BRA x0 x1 x2 x3 xf
 obtain ⟨W3, hW3⟩ : ∃ W3, W3 = set4 w1 w.heap.size (.slice (some ⟨gN, 0, none⟩) g.nodes.length d1) (.slice B2 g.edges.length d2) (.int .i64 g.nn) (.int .i64 g.ne) := ⟨_, rfl⟩
 have HO3 := Lib.hid (show OwnG W3 wA.heap.size g (.slice (some ⟨gN, 0, none⟩) g.nodes.length d1) (.slice B2 g.edges.length d2) nvs from HO1.out.move fun k hk _ => by rw [hW3]; exact set4_heap _ _ _ _ _ _ k (by omega))
 have BX3 := Lib.hid (show Box4 W3 w.heap.size (.slice (some ⟨gN, 0, none⟩) g.nodes.length d1) (.slice B2 g.edges.length d2) (.int .i64 g.nn) (.int .i64 g.ne) by rw [hW3]; exact BX1.out.set _ _ _ _)
 have BR3 := Lib.hid (show Box4 W3 (w.heap.size + 1) (.slice none 0 0) (.slice none 0 0) (.int .i64 0) (.int .i64 0) by rw [hW3]; exact BR1.out.other4 (by omega) _ _ _ _)
 have K3 := Lib.hid (show Below w.heap.size w W3 by rw [hW3]; exact set4_below K1.out (Nat.le_refl _) _ _ _ _)
 have s3 : W3.heap.size = w1.heap.size := by rw [hW3, set4_size]
 have HW3 := Lib.hid hW3
 clear hW3
 have hoi : Own tP 92 W3 (fun k => wA.heap.size ≤ k) (.slice vi.A vi.n vi.c) x.ps := (HO3.out.each i vi x hvi HX.out).2
 have hvn : vi.n = x.ps.length := hoi.n_eq
 obtain ⟨b', off', hA, _, _, _, y1⟩ := ho1.nodes.row.atNV hvi
 injection hA with hA
 injection hA with h1 h2
 subst h1 h2
 simp only [Nat.zero_add] at y1
 obtain ⟨vA, vc, hvA, hvc⟩ : ∃ A c, A = vi.A ∧ c = vi.c := ⟨_, _, rfl, rfl⟩
 rw [← hvA, hvn, ← hvc] at y1 hoi
 have HVS := Lib.hid (And.intro hvA (And.intro hvn hvc))
 have HOI := Lib.hid hoi
 have HNB := Lib.hid (show ∀ k, (Value.slice vA x.ps.length vc).ownBlock = some k → k ≠ gN ∧ wA.heap.size ≤ k ∧ k < w1.heap.size from fun k hk => ⟨fun e => (HO3.out.np i vi k hvi (by rw [← hvA, hvn, ← hvc]; exact hk)).1 (by rw [e]; rfl), HOI.out.1 k hk, by rw [← s3]; exact HOI.out.lt k hk⟩)
 have hf0 := HO3.out.nodes.frozenC (i * 2 + 1)
 obtain ⟨x0, x1, x2, x3, xf⟩ := BX1.out
 have g1 : w.heap.size < w1.heap.size := by omega
 have g2 : ¬ w.heap.size = gN := by omega
 have g3 : ¬ gN = w.heap.size := by omega
 clear hvi hvA hvn hvc hoi ho1 hnl
 go_wp2_with fail
 have y3 : W3.cell? ⟨gN, i * 2 + 1, none⟩ = some (.slice vA x.ps.length vc) := by rw [HW3.out, World.cell?_of_block (set4_heap w1 w.heap.size _ _ _ _ gN g3)]; exact y1
 have eW := HW3.out.symm
 unfold set4 at eW
 rw [eW]
 clear eW x0 x1 x2 x3 xf y1
 refine (find_calls _ _ _ x.ps k HOI.out.row HRX.out (by omega)).mono ?_
 rintro e w4 ⟨m, bb, rfl, hf, hb4⟩
 have s4 := hb4.size
 have K4 := Lib.hid (K3.out.trans (hb4.mono K3.out.size))
 have HO4 := Lib.hid (HO3.out.below hb4)
 have HOI4 := Lib.hid (HOI.out.below hb4)
 have BX4 := Lib.hid (BX3.out.keep (hb4.block _ (by omega)))
 have BR4 := Lib.hid (BR3.out.keep (hb4.block _ (by omega)))
 have y4 : w4.cell? ⟨gN, i * 2 + 1, none⟩ = some (.slice vA x.ps.length vc) := (hb4.cell (p := ⟨gN, i * 2 + 1, none⟩) (by simp only; omega)).trans y3
 have hf4 : w4.frozen? ⟨gN, i * 2 + 1, none⟩ = false := (hb4.frozen (p := ⟨gN, i * 2 + 1, none⟩) (by simp only; omega)).trans hf0
 have HFA := Lib.hid hf
 have HML := Lib.hid hf.le
 have q1 : gN < w4.heap.size := by omega
 clear hb4 hf y3 hf0
 cases bb
 case false =>
  have HIN := Lib.hid (show x.ps.take m ++ ⟨k, v⟩ :: x.ps.drop m = putP x.ps k v from put_insert v HFA.out HRX.out)
  go_wp2_with fail
  have KC := Lib.hid (Below.heap1 w4 (.cells #[.int .i64 k, .int .i64 v] 92))
  refine (insert_calls _ (fun k => wA.heap.size ≤ k) _ x.ps ⟨k, v⟩ m w4.heap.size (HOI4.out.below KC.out) HML.out (by omega) (heap_alloc_new w4 _) (fun e => by have := HOI4.out.lt _ e; omega) (by show wA.heap.size ≤ w4.heap.size; omega) (by show wA.heap.size ≤ _; simp; omega)).mono ?_
  rintro e w7 ⟨v', rfl, ho7, hg7, hor7⟩
  obtain ⟨A', c', rfl⟩ := ho7.slice
  have s7 := hg7.size
  simp only [World.size_alloc] at s7
  have HN := Lib.hid ((HO4.out.below KC.out).putPairs HVI.out HX.out (A' := A') (c' := c') (n' := (x.ps.take m ++ ⟨k, v⟩ :: x.ps.drop m).length) ho7 (by rw [← HVS.out.1, HVS.out.2.1, ← HVS.out.2.2]; exact hg7) (by
   rw [← HVS.out.1, HVS.out.2.1, ← HVS.out.2.2]
   rcases hor7 with h | h
   ·
    exact .inl h
   ·
    exact .inr ⟨_, h, Nat.le_refl _⟩))
  have hk7 : ∀ k, k < wA.heap.size ∨ k = gN → w7.heap[k]? = w4.heap[k]? := fun k hk => (hg7.block k (by simp; omega) (fun e => by have := HNB.out k e.symm; omega)).trans (Below.heap_alloc _ _ _ (by omega))
  have BX7 := Lib.hid (BX4.out.keep (hk7 _ (.inl ga)))
  have BR7 := Lib.hid (BR4.out.keep (hk7 _ (.inl gb)))
  have y7 : w7.cell? ⟨gN, i * 2 + 1, none⟩ = some (.slice vA x.ps.length vc) := (World.cell?_of_block (hk7 gN (.inr rfl))).trans y4
  have hf7 : w7.frozen? ⟨gN, i * 2 + 1, none⟩ = false := (World.frozen?_of_block (hk7 gN (.inr rfl))).trans hf4
  have HB8 := Lib.hid (((K4.out.trans (KC.out.mono (by omega))).grown hg7 (by simp; omega) (fun k hk => by have := HNB.out k hk; omega)).setCell (p := ⟨gN, i * 2 + 1, none⟩) (by simp only; omega) (.slice A' (x.ps.take m ++ ⟨k, v⟩ :: x.ps.drop m).length c'))
  rw [HIN.out] at HN HB8
  obtain ⟨L, hL⟩ : ∃ L, L = (putP x.ps k v).length := ⟨_, rfl⟩
  have hL2 : (x.ps.take m ++ ⟨k, v⟩ :: x.ps.drop m).length = L := by rw [HIN.out, hL]
  rw [hL2]
  rw [← hL] at HN HB8
  have BX8 := Lib.hid (BX7.out.other (b' := gN) g2 (i * 2 + 1) (.slice A' L c'))
  have BR8 := Lib.hid (BR7.out.other (b' := gN) (by omega) (i * 2 + 1) (.slice A' L c'))
  have q7 : gN < w7.heap.size := by omega
  have s8 : (w7.setCell ⟨gN, i * 2 + 1, none⟩ (.slice A' L c')).heap.size = w7.heap.size := by simp
  clear ho7 hg7 hor7 hL hL2 hk7 y4 hf4
  obtain ⟨x0, x1, x2, x3, xf⟩ := BX7.out
  obtain ⟨y0, y1, y2, y3, yf⟩ := BR7.out
  have q8 : w.heap.size < w7.heap.size := by omega
  have q9 : w.heap.size + 1 < w7.heap.size := by omega
  have g4 : ¬ w.heap.size + 1 = gN := by omega
  have g5 : ¬ gN = w.heap.size + 1 := by omega
  go_wp2
  obtain ⟨y0, y1, y2, y3, yf⟩ := BR8.out
  refine bodyPost_ret (v := .tuple #[.agg #[.slice (some ⟨gN, 0, none⟩) g.nodes.length d1, .slice B2 g.edges.length d2, .int .i64 g.nn, .int .i64 g.ne], .int .i64 0]) (by simp [results, Tryz.results93, go_sem, y0, y1, y2, y3]; try rfl) rfl ?_
  rw [HE.out]
  have hSm : Same (fun k => wA.heap.size ≤ k) (w7.setCell ⟨gN, i * 2 + 1, none⟩ (.slice A' L c')) (set4 (w7.setCell ⟨gN, i * 2 + 1, none⟩ (.slice A' L c')) (w.heap.size + 1) (.slice (some ⟨gN, 0, none⟩) g.nodes.length d1) (.slice B2 g.edges.length d2) (.int .i64 g.nn) (.int .i64 g.ne)) := fun k hk hl => set4_heap _ _ _ _ _ _ k (by omega)
  exact ⟨_, _, rfl, (HN.out.gr.move hSm).mono (fun k hk _ => by omega), set4_below HB8.out (by omega) _ _ _ _⟩
 case true =>
  obtain ⟨pm, hpm, hpk⟩ := HFA.out.is.1 rfl
  have hml : m < x.ps.length := (List.getElem?_eq_some_iff.1 hpm).1
  obtain ⟨gP, rfl, _, hgPl⟩ := HOI4.out.head (by omega)
  have hgP := HNB.out gP rfl
  obtain ⟨bP, oP, hAP, _, _, u0, u1⟩ := HOI4.out.row.atP hpm
  injection hAP with hAP
  injection hAP with h1 h2
  subst h1 h2
  simp only [Nat.zero_add] at u0 u1
  have hfp := HOI4.out.frozenC (m * 2 + 1)
  have N0 := HOI4.out.setFlat (p := m) (i := 1) (y := pm) (y' := ⟨k, v⟩) (u := .int .i64 v) hpm (by decide) (by simp [P2.cells, hpk])
  have HPS := Lib.hid (show x.ps.set m ⟨k, v⟩ = putP x.ps k v from put_set v HFA.out HRX.out)
  rw [HPS.out] at N0
  have HN := Lib.hid (HO4.out.inPairs (w' := w4.setCell ⟨gP, m * 2 + 1, none⟩ (.int .i64 v)) HVI.out HX.out (ys := putP x.ps k v) (by rw [← HVS.out.1, HVS.out.2.1, ← HVS.out.2.2]; exact N0) (fun k hk hne => Below.heap_setCell w4 ⟨gP, m * 2 + 1, none⟩ _ k (fun e => hne (by rw [← HVS.out.1, HVS.out.2.1, ← HVS.out.2.2, e]; rfl))))
  have BX8 := Lib.hid (BX4.out.other (b' := gP) (by omega) (m * 2 + 1) (.int .i64 v))
  have BR8 := Lib.hid (BR4.out.other (b' := gP) (by omega) (m * 2 + 1) (.int .i64 v))
  have HB8 := Lib.hid (K4.out.setCell (p := ⟨gP, m * 2 + 1, none⟩) (by simp only; omega) (.int .i64 v))
  clear N0 hpm hpk
  obtain ⟨x0, x1, x2, x3, xf⟩ := BX4.out
  obtain ⟨y0, y1, y2, y3, yf⟩ := BR4.out
  have q8 : w.heap.size < w4.heap.size := by omega
  have q9 : w.heap.size + 1 < w4.heap.size := by omega
  have g4 : ¬ w.heap.size = gP := by omega
  have g5 : ¬ gP = w.heap.size := by omega
  have g6 : ¬ w.heap.size + 1 = gP := by omega
  have g7 : ¬ gP = w.heap.size + 1 := by omega
  go_wp2
  obtain ⟨y0, y1, y2, y3, yf⟩ := BR8.out
  refine bodyPost_ret (v := .tuple #[.agg #[.slice (some ⟨gN, 0, none⟩) g.nodes.length d1, .slice B2 g.edges.length d2, .int .i64 g.nn, .int .i64 g.ne], .int .i64 0]) (by simp [results, Tryz.results93, go_sem, y0, y1, y2, y3]; try rfl) rfl ?_
  rw [HE.out]
  have hSm : Same (fun k => wA.heap.size ≤ k) (w4.setCell ⟨gP, m * 2 + 1, none⟩ (.int .i64 v)) (set4 (w4.setCell ⟨gP, m * 2 + 1, none⟩ (.int .i64 v)) (w.heap.size + 1) (.slice (some ⟨gN, 0, none⟩) g.nodes.length d1) (.slice B2 g.edges.length d2) (.int .i64 g.nn) (.int .i64 g.ne)) := fun k hk hl => set4_heap _ _ _ _ _ _ k (by omega)
  exact ⟨_, _, rfl, (HN.out.gr.move hSm).mono (fun k hk _ => by omega), set4_below HB8.out (by omega) _ _ _ _⟩
end Go.Proofs.YtpehmmdbjakkpaaGreat
namespace Go.Proofs.YtpehmmdbjakkpaaGreat
open Go.RowKit Go.Shelf
set_option linter.unusedSimpArgs false
set_option linter.unusedVariables false
theorem zeroPair (w : World) : (zeroValue 92).run Tryz.prog w = .ok (.agg #[.int .i64 0, .int .i64 0]) w := by
 obtain ⟨i0, hi0, hz0⟩ := Option.map_eq_some_iff.1 elemPairs.info
 simp only [Prod.mk.injEq] at hz0
 simp [zeroValue, typeInfo, hi0, hz0.1]
/-- What stands behind it. -/
def DelPost (w : World) (S : Nat → Prop) (g n c i : Nat) (xs : List P2) (e : Ending) (w' : World) : Prop := e = .returned (.slice (some ⟨g, 0, none⟩) (n - 1) c) ∧ Own tP 92 w' S (.slice (some ⟨g, 0, none⟩) (n - 1) c) (xs.take i ++ xs.drop (i + 1)) ∧ w.grownBy w' (some g)
theorem setCells_grown (w : World) (g o : Nat) (vs : List Value) : w.grownBy (w.setCells g o vs) (some g) := by
 have hb := setCells_below (B := 0) (g := g) (Nat.zero_le _) vs o w (Below.refl 0 w)
 exact ⟨hb.os, hb.tape, hb.output, hb.size, fun k hk hne => setCells_heap vs o w k (fun e => hne (by rw [e]))⟩
set_option maxRecDepth 20000 in
set_option maxHeartbeats 8000000 in
theorem deleteP_calls (w : World) (S : Nat → Prop) (g c i n : Nat) (xs : List P2) (hown : Own tP 92 w S (.slice (some ⟨g, 0, none⟩) n c) xs) (hi : i < n) (hs : n ≤ 1000000) :
  Calls Tryz.prog 116 #[.slice (some ⟨g, 0, none⟩) n c, .int .i64 i, .int .i64 ((i : Int) + 1)] w (DelPost w S g n c i xs) := by
 obtain ⟨cur, hg, hn, hnc, hcm, hcl, htk, hSg⟩ := hown.toCells
 have hgw := heap_lt hg
 obtain ⟨i0, hi0, hz0⟩ := Option.map_eq_some_iff.1 elemPairs.info
 simp only [Prod.mk.injEq] at hz0
 have hz1 : i0.size = 2 := hz0.2.1
 have hti : flatP xs = flatP (xs.take i) ++ flatP (xs.drop i) := by rw [← flatP_app, List.take_append_drop]
 have hli : (flatP (xs.take i)).length = i * 2 := by rw [flatP_len, List.length_take, Nat.min_eq_left (by omega)]
 have hci : cur.take (i * 2) = flatP (xs.take i) := by
  have h4 : (cur.take (n * 2)).take (i * 2) = cur.take (i * 2) := by rw [List.take_take, Nat.min_eq_left (by omega)]
  rw [← h4, htk, hti, List.take_append_of_le_length (by omega), List.take_of_length_le (by omega)]
 have HOR := Lib.hid (show w.ownsRow 0 92 2 (.slice (some ⟨g, 0, none⟩) i c) i (flatP (xs.take i)) from ⟨hli, .inr ⟨g, c, cur.toArray, rfl, Nat.zero_le _, hg, by omega, hcm, by rw [List.size_toArray, hcl], by rw [List.toList_toArray]; exact hci⟩⟩)
 have HSRC := Lib.hid (show ∀ (o j : Nat) (v : Value), (i + 1 < n → o = (i + 1) * 2) → (flatP (xs.drop (i + 1)))[j]? = some v → w.cell? ⟨g, o + j, none⟩ = some v from fun o j v ho hj => by
  have hl : j < (xs.length - (i + 1)) * 2 := by rw [← drop_len2]; exact (List.getElem?_eq_some_iff.1 hj).1
  rw [ho (by omega)]
  exact cell_of_blk hg (flat_tail (i := i + 1) (by omega) (hn ▸ htk) hj))
 have HI0 := Lib.hid hi0
 have HZ1 := Lib.hid hz1
 have HSg := Lib.hid hSg
 have HLN := Lib.hid hn
 have HDL := Lib.hid (show (flatP (xs.drop (i + 1))).length = (n - (i + 1)) * 2 by rw [drop_len2, hn])
 have HAF := Lib.hid (show ∀ (w' : World), w'.ownsRow 0 92 2 (.slice (some ⟨g, 0, none⟩) (i + (n - (i + 1))) c) (i + (n - (i + 1))) (flatP (xs.take i) ++ flatP (xs.drop (i + 1))) → Own tP 92 w' S (.slice (some ⟨g, 0, none⟩) (n - 1) c) (xs.take i ++ xs.drop (i + 1)) from fun w' h => by
  have e : i + (n - (i + 1)) = n - 1 := by omega
  rw [e, ← flatP_app] at h
  refine ⟨fun k hk => by simp [Value.ownBlock] at hk; subst hk; exact hSg, flatP (xs.take i ++ xs.drop (i + 1)), ?_, fun j x hj => ?_⟩
  ·
   rw [show (xs.take i ++ xs.drop (i + 1)).length = n - 1 by simp; omega]
   exact h
  ·
   show ((flatP _).drop (j * 2)).take 2 = x.cells
   exact flatP_at _ j x hj)
 have HCM := Lib.hid hcm
 clear hz0 hz1 hi0 hti hli hci hg htk hown hcl hn
 unfold maxLen at hcm
 have hle1 : (i : Int) ≤ (i : Int) + 1 := by omega
 have hb1 : (0 : Int) ≤ (i : Int) + 1 := by omega
 have htn : ((i : Int) + 1).toNat = i + 1 := by omega
 have hw1 : IntKind.i64.wrap ((i : Int) + 1) = (i : Int) + 1 := by rw [IntKind.wrap_i64]; omega
 have hne : ¬ ((i : Int) = (i : Int) + 1) := by omega
 have FIN := Lib.hid (show ∀ w1 : World, Own tP 92 w1 S (.slice (some ⟨g, 0, none⟩) (n - 1) c) (xs.take i ++ xs.drop (i + 1)) → ∃ vs : List Value, (∀ ty, (Builtin.clear_ #[47] ty #[.slice (some ⟨g, (n - 1) * 2, none⟩) (n - (n - 1)) (c - (n - 1))]).run Tryz.prog w1 = .ok (.tuple #[]) (w1.setCells g ((n - 1) * 2) vs)) ∧ Own tP 92 (w1.setCells g ((n - 1) * 2) vs) S (.slice (some ⟨g, 0, none⟩) (n - 1) c) (xs.take i ++ xs.drop (i + 1)) from fun w1 h => by
  obtain ⟨cur1, hg1, hn1, _, _, hcl1, _, _⟩ := h.toCells
  obtain ⟨vs, hvl, hcl⟩ := run_clearN w1 47 92 (.agg #[.int .i64 0, .int .i64 0]) Tryz.underlying47 zeroPair (by intro u hu; simp [Value.cells] at hu; rcases hu with rfl | rfl <;> rfl) (by decide) g ((n - 1) * 2) (n - (n - 1)) (c - (n - 1))
   (fun q hq => by
    have h1 : q < (n - (n - 1)) * 2 := hq
    have hl : (n - 1) * 2 + q < cur1.length := by rw [hcl1]; omega
    rw [cell_of_blk hg1 (List.getElem?_eq_getElem hl)]; rfl) (fun q hq => h.frozenC _)
  refine ⟨vs, hcl, ?_⟩
  have h3 := h.cutTail (i := n - 1) (Nat.le_refl _) vs
  have h4 : (xs.take i ++ xs.drop (i + 1)).take (n - 1) = xs.take i ++ xs.drop (i + 1) := List.take_of_length_le (by rw [← hn1]; exact Nat.le_refl _)
  rw [h4] at h3
  exact h3)
 have hbd : (i : Int) + 1 ≤ (n : Int) := by omega
 have hbd2 : (i : Int) ≤ (c : Int) := by omega
 have hbd3 : (i : Int) ≤ (n : Int) := by omega
 have hci2 : ¬ c = i := by omega
 have hnc2 : (n : Int) ≤ (c : Int) := by omega
 rcases (by omega : (c = i + 1 ∧ n = i + 1) ∨ ¬ c = i + 1) with ⟨rfl, rfl⟩ | hcb
 ·
  skip
  go_enter Tryz.func116, Tryz.ntmps116
  go_wp2_with fail
  refine wp_region_sched [(0, true), (1, true), (2, true), (3, true), (4, true), (5, true), (6, false), (7, true)] (fun _ => True) (by kernel_rfl) (by kernel_rfl) ?_
  repeat (refine sched_take (v := ?_) (by simp only [opT, opS, opZ]; rfl) (Or.inl ⟨by rfl, fun W hW => ?_⟩) trivial ?_; rotate_left; (skip; clear hW; go_simp; with_reducible rfl); simp only [Act.put, putT, putZ, putS])
  refine sched_step (by simp only [opT, opS, opZ]; rfl) ?_
  refine wpList_append_fits w.drew rfl (.tmp 22) (.tmp 25) 47 rfl 0 92 i0 2 Tryz.underlying47 HI0.out HZ1.out g i (i + 1) (flatP (xs.take i)) rfl HOR.out ⟨g, 0, none⟩ 0 0 (flatP (xs.drop (i + 1))) rfl (by rw [HDL.out]; omega) (fun j u hj => by rw [Addr.add_lit]; exact HSRC.out _ j u (fun h => by omega) hj) (flatP_one _) (by omega) ?_
  intro w1 hor hgr
  have HO1 := Lib.hid (HAF.out w1 (by rw [Nat.sub_self]; exact hor))
  obtain ⟨vs, hcl, ho2⟩ := FIN.out w1 HO1.out
  have HG2 := Lib.hid (show w.grownBy (w1.setCells g ((i + 1 - 1) * 2) vs) (some g) from World.grownBy.trans (show w.grownBy w1 (some g) from ⟨hgr.os, hgr.tape, hgr.output, hgr.size, hgr.block⟩) (setCells_grown w1 g _ vs))
  have HO2 := Lib.hid ho2
  clear ho2 hor hgr FIN HAF HO1
  simp only [Nat.add_sub_cancel, Nat.add_sub_cancel_left, Nat.add_zero] at hcl HO2 HG2 ⊢
  refine sched_on trivial ?_
  repeat (refine sched_take (v := ?_) (by simp only [opT, opS, opZ]; rfl) (Or.inl ⟨by rfl, fun W hW => ?_⟩) trivial ?_; rotate_left; (skip; clear hW; go_simp; with_reducible rfl); simp only [Act.put, putT, putZ, putS])
  refine sched_done ?_
  go_wp2
  refine bodyPost_ret (v := .slice (some ⟨g, 0, none⟩) i (i + 1)) (by simp [results, Tryz.results116, go_sem]; try rfl) rfl ?_
  exact ⟨by simp, HO2.out, HG2.out⟩
 ·
  skip
  go_enter Tryz.func116, Tryz.ntmps116
  go_wp2_with fail
  refine wp_region_sched [(0, true), (1, true), (2, true), (3, true), (4, true), (5, true), (6, false), (7, true)] (fun _ => True) (by kernel_rfl) (by kernel_rfl) ?_
  repeat (refine sched_take (v := ?_) (by simp only [opT, opS, opZ]; rfl) (Or.inl ⟨by rfl, fun W hW => ?_⟩) trivial ?_; rotate_left; (skip; clear hW; go_simp; with_reducible rfl); simp only [Act.put, putT, putZ, putS])
  refine sched_step (by simp only [opT, opS, opZ]; rfl) ?_
  refine wpList_append_fits w.drew rfl (.tmp 22) (.tmp 25) 47 rfl 0 92 i0 2 Tryz.underlying47 HI0.out HZ1.out g i c (flatP (xs.take i)) rfl HOR.out ⟨g, (i + 1) * 2, none⟩ (n - (i + 1)) (c - (i + 1)) (flatP (xs.drop (i + 1))) rfl HDL.out (fun j u hj => by rw [Addr.add_lit]; exact HSRC.out _ j u (fun _ => rfl) hj) (flatP_one _) (by omega) ?_
  intro w1 hor hgr
  have HO1 := Lib.hid (HAF.out w1 hor)
  obtain ⟨vs, hcl, ho2⟩ := FIN.out w1 HO1.out
  have HG2 := Lib.hid (show w.grownBy (w1.setCells g ((n - 1) * 2) vs) (some g) from World.grownBy.trans (show w.grownBy w1 (some g) from ⟨hgr.os, hgr.tape, hgr.output, hgr.size, hgr.block⟩) (setCells_grown w1 g _ vs))
  have HO2 := Lib.hid ho2
  have e9 : i + (n - (i + 1)) = n - 1 := by omega
  rw [e9]
  clear ho2 hor hgr FIN HAF HO1 e9
  obtain ⟨p, hp⟩ : ∃ p, p = n - 1 := ⟨_, rfl⟩
  have hpn : p < n := by omega
  have hcp : ¬ c = p := by omega
  have hpn2 : (p : Int) ≤ (n : Int) := by omega
  have HP := Lib.hid hp
  rw [← hp] at hcl HO2 HG2 ⊢
  clear hp
  refine sched_on trivial ?_
  repeat (refine sched_take (v := ?_) (by simp only [opT, opS, opZ]; rfl) (Or.inl ⟨by rfl, fun W hW => ?_⟩) trivial ?_; rotate_left; (skip; clear hW; go_simp; with_reducible rfl); simp only [Act.put, putT, putZ, putS])
  refine sched_done ?_
  go_wp2
  refine bodyPost_ret (v := .slice (some ⟨g, 0, none⟩) p c) (by simp [results, Tryz.results116, go_sem]; try rfl) rfl ?_
  unfold DelPost
  rw [← HP.out]
  exact ⟨rfl, HO2.out, HG2.out⟩
end Go.Proofs.YtpehmmdbjakkpaaGreat
namespace Go.Proofs.YtpehmmdbjakkpaaGreat
open Go.RowKit Go.Shelf
set_option linter.unusedSimpArgs false
set_option linter.unusedVariables false
set_option maxRecDepth 20000 in
set_option maxHeartbeats 8000000 in
theorem del_calls (w : World) (S : Nat → Prop) (g : GraphD) (vn ve : Value) (n k : Int) (h : Gr w S g vn ve) (hs : g.small) (hr : ∀ x ∈ g.nodes, Rises x.ps x.ps.length) (hp : ∀ x ∈ g.nodes, x.ps.length ≤ 100) : Calls Tryz.prog 95 #[.agg #[vn, ve, .int .i64 g.nn, .int .i64 g.ne], .int .i64 n, .int .i64 k] w (Ret2 w (delOf g n k)) := by
 obtain ⟨⟨A1, c1, rfl⟩, ⟨A2, c2, rfl⟩⟩ := h.slices
 have H := Lib.hid h
 have HS := Lib.hid hs
 have HRI := Lib.hid hr
 have HPL := Lib.hid hp
 have hs2 := hs.2.1
 have hs1 := hs.1
 clear h hs hr hp
 go_enter Tryz.func95, Tryz.ntmps95
 go_wp2_with fail
 obtain ⟨W0, hW⟩ : ∃ W0, W0 = ((w.alloc (.cells #[.slice A1 g.nodes.length c1, .slice A2 g.edges.length c2, .int .i64 g.nn, .int .i64 g.ne] 31)).alloc (.cells #[.slice none 0 0, .slice none 0 0, .int .i64 0, .int .i64 0] 31)) := ⟨_, rfl⟩
 have KW := Lib.hid (show Below w.heap.size w W0 by rw [hW]; exact ((Below.refl w.heap.size w).alloc (Nat.le_refl _) _).alloc (by simp) _)
 have BX := Lib.hid (show Box4 W0 w.heap.size (.slice A1 g.nodes.length c1) (.slice A2 g.edges.length c2) (.int .i64 g.nn) (.int .i64 g.ne) by
  rw [hW]
  exact (Box4.made w 31 (.slice A1 g.nodes.length c1) (.slice A2 g.edges.length c2) (.int .i64 g.nn) (.int .i64 g.ne)).keep (by rw [Below.heap_alloc _ _ _ (by simp)]))
 have BR := Lib.hid (show Box4 W0 (w.heap.size + 1) (.slice none 0 0) (.slice none 0 0) (.int .i64 0) (.int .i64 0) by
  rw [hW]
  have := (Box4.made (w.alloc (.cells #[.slice A1 g.nodes.length c1, .slice A2 g.edges.length c2, .int .i64 g.nn, .int .i64 g.ne] 31)) 31 (.slice none 0 0) (.slice none 0 0) (.int .i64 0) (.int .i64 0))
  simp only [World.size_alloc] at this
  exact this)
 have s0 : W0.heap.size = w.heap.size + 1 + 1 := by rw [hW]; simp
 rw [← hW]
 clear hW
 refine (at_calls W0 S g _ _ n (H.out.below KW.out) hs1).mono ?_
 rintro e wA ⟨rfl, hbA⟩
 have sA := hbA.size
 have KA := Lib.hid (KW.out.trans (hbA.mono KW.out.size))
 have BXA := Lib.hid (BX.out.keep (hbA.block _ (by omega)))
 have BRA := Lib.hid (BR.out.keep (hbA.block _ (by omega)))
 clear hbA BX BR KW
 have ga : w.heap.size < wA.heap.size := by omega
 have gb : w.heap.size + 1 < wA.heap.size := by omega
 obtain ⟨x0, x1, x2, x3, xf⟩ := BXA.out
 by_cases ha : atOf g.nodes n < 0
 ·
  have HE := Lib.hid (show delOf g n k = (GraphD.zero, 2) by unfold delOf; rw [getOf_none ha]; rfl)
  have hd : decide (atOf g.nodes n < 0) = true := decide_eq_true ha
  clear ha
  generalize atOf g.nodes n = p at *
  obtain ⟨y0, y1, y2, y3, yf⟩ := BRA.out
  go_wp2
  refine bodyPost_ret (v := .tuple #[.agg #[.slice none 0 0, .slice none 0 0, .int .i64 0, .int .i64 0], .int .i64 2]) (by simp [results, Tryz.results95, go_sem, y0, y1, y2, y3]; try rfl) rfl ?_
  rw [HE.out]
  exact ⟨_, _, rfl, Gr.zero _ _ _ _, set4_below KA.out (by omega) _ _ _ _⟩
 obtain ⟨i, x, hi, hx, hid⟩ := atOf_at ha
 have HE1 := Lib.hid (show delOf g n k = if hasP x.ps k then (⟨g.nodes.set i ⟨x.id, delP x.ps k⟩, g.edges, g.nn, g.ne⟩, 0) else (GraphD.zero, 2) by unfold delOf; rw [getOf_at2 hi hx, setN_at hi hx hid])
 rw [hi]
 have hil : i < g.nodes.length := (List.getElem?_eq_some_iff.1 hx).1
 have HX := Lib.hid hx
 have hpx := HPL.out x (List.mem_of_getElem? hx)
 have HRX := Lib.hid (HRI.out x (List.mem_of_getElem? hx))
 clear ha hi hx hid
 obtain ⟨bn, on, ap, dp, rfl, _, hbl, hrp, z0, z1⟩ := (H.out.below KA.out).atN HX.out
 have HRP := Lib.hid hrp
 clear hrp
 go_wp2_with fail
 refine (find_calls _ _ _ x.ps k HRP.out HRX.out (by omega)).mono ?_
 rintro e w2 ⟨m, bb, rfl, hf, hb⟩
 have s2 := hb.size
 have K2 := Lib.hid (KA.out.trans (hb.mono KA.out.size))
 have BX2 := Lib.hid (BXA.out.keep (hb.block _ ga))
 have BR2 := Lib.hid (BRA.out.keep (hb.block _ gb))
 have HFA := Lib.hid hf
 have HAS := Lib.hid (findAt_has hf HRX.out)
 clear hb hf x0 x1 x2 x3 xf z0 z1 BXA BRA
 have ga : w.heap.size < w2.heap.size := by omega
 have gb : w.heap.size + 1 < w2.heap.size := by omega
 cases bb
 case false =>
  have HE := Lib.hid (show delOf g n k = (GraphD.zero, 2) by rw [HE1.out, ← HAS.out]; rfl)
  obtain ⟨y0, y1, y2, y3, yf⟩ := BR2.out
  go_wp2
  refine bodyPost_ret (v := .tuple #[.agg #[.slice none 0 0, .slice none 0 0, .int .i64 0, .int .i64 0], .int .i64 2]) (by simp [results, Tryz.results95, go_sem, y0, y1, y2, y3]; try rfl) rfl ?_
  rw [HE.out]
  exact ⟨_, _, rfl, Gr.zero _ _ _ _, set4_below K2.out (by omega) _ _ _ _⟩
 case true =>
 have HE := Lib.hid (show delOf g n k = (⟨g.nodes.set i ⟨x.id, delP x.ps k⟩, g.edges, g.nn, g.ne⟩, 0) by rw [HE1.out, ← HAS.out]; rfl)
 have hml : m < x.ps.length := by
  obtain ⟨p, hp, _⟩ := HFA.out.is.1 rfl
  exact (List.getElem?_eq_some_iff.1 hp).1
 have HDP := Lib.hid (show x.ps.take m ++ x.ps.drop (m + 1) = delP x.ps k from del_erase HFA.out HRX.out)
 obtain ⟨x0, x1, x2, x3, xf⟩ := BX2.out
 go_wp2_with fail
 refine (own_calls w2 S g _ _ (H.out.below K2.out) HS.out).mono ?_
 rintro e w1 ⟨vn1, ve1, nvs, rfl, ho1, hb1⟩
 obtain ⟨⟨B1, d1, rfl⟩, ⟨B2, d2, rfl⟩⟩ := ho1.gr.slices
 have s1 := hb1.size
 have K1 := Lib.hid (K2.out.trans (hb1.mono K2.out.size))
 have BX1 := Lib.hid (BX2.out.keep (hb1.block _ ga))
 have BR1 := Lib.hid (BR2.out.keep (hb1.block _ gb))
 have hnl : nvs.length = g.nodes.length := ho1.len
 obtain ⟨gN, hB1, hgB, hgl⟩ := ho1.nodes.head (by omega)
 subst hB1
 obtain ⟨vi, hvi⟩ := getElem?_of_lt (show i < nvs.length by omega)
 have HVI := Lib.hid hvi
 have HO1 := Lib.hid ho1
 clear hb1 BX2 BR2 x0 x1 x2 x3 xf
 obtain ⟨W3, hW3⟩ : ∃ W3, W3 = set4 w1 w.heap.size (.slice (some ⟨gN, 0, none⟩) g.nodes.length d1) (.slice B2 g.edges.length d2) (.int .i64 g.nn) (.int .i64 g.ne) := ⟨_, rfl⟩
 have HO3 := Lib.hid (show OwnG W3 w2.heap.size g (.slice (some ⟨gN, 0, none⟩) g.nodes.length d1) (.slice B2 g.edges.length d2) nvs from HO1.out.move fun k hk _ => by rw [hW3]; exact set4_heap _ _ _ _ _ _ k (by omega))
 have BX3 := Lib.hid (show Box4 W3 w.heap.size (.slice (some ⟨gN, 0, none⟩) g.nodes.length d1) (.slice B2 g.edges.length d2) (.int .i64 g.nn) (.int .i64 g.ne) by rw [hW3]; exact BX1.out.set _ _ _ _)
 have BR3 := Lib.hid (show Box4 W3 (w.heap.size + 1) (.slice none 0 0) (.slice none 0 0) (.int .i64 0) (.int .i64 0) by rw [hW3]; exact BR1.out.other4 (by omega) _ _ _ _)
 have K3 := Lib.hid (show Below w.heap.size w W3 by rw [hW3]; exact set4_below K1.out (Nat.le_refl _) _ _ _ _)
 have s3 : W3.heap.size = w1.heap.size := by rw [hW3, set4_size]
 have HW3 := Lib.hid hW3
 clear hW3
 have hoi : Own tP 92 W3 (fun k => w2.heap.size ≤ k) (.slice vi.A vi.n vi.c) x.ps := (HO3.out.each i vi x hvi HX.out).2
 have hvn : vi.n = x.ps.length := hoi.n_eq
 obtain ⟨b', off', hA, _, _, _, y1⟩ := HO3.out.nodes.row.atNV hvi
 injection hA with hA
 injection hA with h1 h2
 subst h1 h2
 simp only [Nat.zero_add] at y1
 obtain ⟨gP, hgP, _, hgPl⟩ := hoi.head (by omega)
 obtain ⟨vc, hvc⟩ : ∃ c, c = vi.c := ⟨_, rfl⟩
 rw [hgP, hvn, ← hvc] at y1 hoi
 have HVS := Lib.hid (And.intro hgP (And.intro hvn hvc))
 have HOI := Lib.hid hoi
 have hgP2 : gP ≠ gN ∧ w2.heap.size ≤ gP ∧ gP < w1.heap.size := ⟨fun e => (HO3.out.np i vi gP hvi (by rw [hgP]; rfl)).1 (by rw [e]; rfl), HOI.out.1 gP rfl, by rw [← s3]; exact HOI.out.lt gP rfl⟩
 have hf0 := HO3.out.nodes.frozenC (i * 2 + 1)
 clear hvi hgP hvn hvc hoi ho1 hnl
 obtain ⟨x0, x1, x2, x3, xf⟩ := BX1.out
 have g1 : w.heap.size < w1.heap.size := by omega
 have g2 : ¬ w.heap.size = gN := by omega
 have g3 : ¬ gN = w.heap.size := by omega
 go_wp2_with fail
 have eW := HW3.out.symm
 unfold set4 at eW
 rw [eW]
 clear eW x0 x1 x2 x3 xf
 obtain ⟨x0, x1, x2, x3, xf⟩ := BX3.out
 have q1 : w.heap.size < W3.heap.size := by omega
 have q2 : gN < W3.heap.size := by omega
 have T1 := Lib.hid (show (Value.slice (some ⟨gP, 0, none⟩) x.ps.length vc).ownBlock ≠ some w.heap.size from fun e => by simp [Value.ownBlock] at e; omega)
 have T2 := Lib.hid (show (Value.slice (some ⟨gP, 0, none⟩) x.ps.length vc).ownBlock ≠ some gN from fun e => by simp [Value.ownBlock] at e; omega)
 refine wp_region_sched2 [(0, true), (1, true), (2, true), (3, true), (4, true), (5, true), (6, true), (7, true), (8, true), (9, true), (10, true), (11, true), (12, false), (13, false), (14, true)] 15 [] (Kept W3 (fun k => (Value.slice (some ⟨gP, 0, none⟩) x.ps.length vc).ownBlock ≠ some k)) (fun _ => True) (by kernel_rfl) (by kernel_rfl) (by kernel_rfl) ?_
 have HK := Lib.hid (Kept.refl W3 (fun k => (Value.slice (some ⟨gP, 0, none⟩) x.ps.length vc).ownBlock ≠ some k)).drew
 have hw1 : IntKind.i64.wrap ((m : Int) + 1) = (m : Int) + 1 := by rw [IntKind.wrap_i64]; omega
 repeat (refine sched2_take (v := ?_) (by simp only [opT, opS, opZ]; rfl) (Or.inl ⟨by rfl, fun W hW => ?_⟩) HK.out ?_; rotate_left; (have hc1 := hW.cell w.heap.size 0 T1.out q1 ; have hc2 := hW.cell gN (i * 2 + 1) T2.out q2; clear hW; go_simp; with_reducible rfl); simp only [Act.put, putT, putZ, putS])
 refine sched2_step (by simp only [opT, opS, opZ]; rfl) ?_
 go_wp2_with fail
 refine (deleteP_calls _ _ gP vc m x.ps.length x.ps (HOI.out.below (Below.refl W3.heap.size W3).drew) hml (by omega)).mono ?_
 rintro e w7 ⟨rfl, ho7, hg7⟩
 rw [HDP.out] at ho7
 have s7 := hg7.size
 simp only [World.size_drew] at s7
 have hg7' : W3.grownBy w7 (some gP) := ⟨hg7.os, hg7.tape, hg7.output, hg7.size, hg7.block⟩
 have HK7 := Lib.hid (HK.out.grown hg7 (fun k hk => .inr fun hT => hT hk))
 obtain ⟨L, hL⟩ : ∃ L, L = x.ps.length - 1 := ⟨_, rfl⟩
 rw [← hL] at ho7 ⊢
 have HN := Lib.hid (HO3.out.putPairs HVI.out HX.out (A' := some ⟨gP, 0, none⟩) (c' := vc) (n' := L) (by have h9 := ho7.n_eq; exact ho7) (by rw [HVS.out.1]; exact hg7') (.inl (by rw [HVS.out.1]; rfl)))
 have hk7 : ∀ k, k < w2.heap.size ∨ k = gN → w7.heap[k]? = W3.heap[k]? := fun k hk => hg7'.block k (by omega) (fun e => by injection e with e; omega)
 have BX7 := Lib.hid (BX3.out.keep (hk7 _ (.inl ga)))
 have BR7 := Lib.hid (BR3.out.keep (hk7 _ (.inl gb)))
 have y7 : w7.cell? ⟨gN, i * 2 + 1, none⟩ = some (.slice (some ⟨gP, 0, none⟩) x.ps.length vc) := (World.cell?_of_block (hk7 gN (.inr rfl))).trans y1
 have hf7 : w7.frozen? ⟨gN, i * 2 + 1, none⟩ = false := (World.frozen?_of_block (hk7 gN (.inr rfl))).trans hf0
 have HB8 := Lib.hid ((K3.out.grown hg7' (by omega) (fun k hk => by injection hk with hk; omega)).setCell (p := ⟨gN, i * 2 + 1, none⟩) (by simp only; omega) (.slice (some ⟨gP, 0, none⟩) L vc))
 have BX8 := Lib.hid (BX7.out.other (b' := gN) g2 (i * 2 + 1) (.slice (some ⟨gP, 0, none⟩) L vc))
 have BR8 := Lib.hid (BR7.out.other (b' := gN) (by omega) (i * 2 + 1) (.slice (some ⟨gP, 0, none⟩) L vc))
 have q7 : gN < w7.heap.size := by omega
 have s8 : (w7.setCell ⟨gN, i * 2 + 1, none⟩ (.slice (some ⟨gP, 0, none⟩) L vc)).heap.size = w7.heap.size := by simp
 have HL := Lib.hid hL
 clear ho7 hg7 hL hk7 y1 hf0 x0 x1 x2 x3 xf
 go_wp2_with fail
 refine sched2_on HK7.out ?_
 refine sched2_step (by simp only [opT, opS, opZ]; rfl) ?_
 go_wp2_with fail
 refine sched2_on HK7.out ?_
 repeat (refine sched2_take (v := ?_) (by simp only [opT, opS, opZ]; rfl) (Or.inl ⟨by rfl, fun W hW => ?_⟩) HK7.out ?_; rotate_left; (skip; clear hW; go_simp; with_reducible rfl); simp only [Act.put, putT, putZ, putS])
 refine sched2_go (by simp only [opT, opS, opZ]; rfl) ?_
 go_wp2_with fail
 refine sched_on trivial ?_
 refine sched_done ?_
 clear y7 hf7 HK HK7
 generalize hw8 : w7.setCell ⟨gN, i * 2 + 1, none⟩ (.slice (some ⟨gP, 0, none⟩) L vc) = w8 at *
 clear hw8
 obtain ⟨x0, x1, x2, x3, xf⟩ := BX8.out
 obtain ⟨y0, y1, y2, y3, yf⟩ := BR8.out
 have q8 : w.heap.size < w8.heap.size := by omega
 have q9 : w.heap.size + 1 < w8.heap.size := by omega
 go_wp2
 refine bodyPost_ret (v := .tuple #[.agg #[.slice (some ⟨gN, 0, none⟩) g.nodes.length d1, .slice B2 g.edges.length d2, .int .i64 g.nn, .int .i64 g.ne], .int .i64 0]) (by simp [results, Tryz.results95, go_sem, y0, y1, y2, y3]; try rfl) rfl ?_
 rw [HE.out]
 have hSm : Same (fun k => w2.heap.size ≤ k) w8 (set4 w8 (w.heap.size + 1) (.slice (some ⟨gN, 0, none⟩) g.nodes.length d1) (.slice B2 g.edges.length d2) (.int .i64 g.nn) (.int .i64 g.ne)) := fun k hk hl => set4_heap _ _ _ _ _ _ k (by omega)
 exact ⟨_, _, rfl, (HN.out.gr.move hSm).mono (fun k hk _ => by omega), set4_below HB8.out (by omega) _ _ _ _⟩
end Go.Proofs.YtpehmmdbjakkpaaGreat

