/- The reference's Cut. The reference's without. The reference's Drop. -/
import Derived.Test.YtpehmmdbjakkpaaGreatRefA
import Derived.Test.YtpehmmdbjakkpaaGreatGetM
namespace Go.Proofs.YtpehmmdbjakkpaaGreat
open Go.RowKit Go.Shelf
set_option linter.unusedSimpArgs false
set_option linter.unusedVariables false
theorem filter_take_succ {α : Type} {l : List α} {j : Nat} {x : α} (h : l[j]? = some x) (q : α → Bool) : (l.take (j + 1)).filter q = (l.take j).filter q ++ (if q x then [x] else []) := by
 rw [List.take_add_one, h, Option.toList_some, List.filter_append]
 congr 1
 cases hq : q x <;> simp [hq]
theorem filter_take_len {α : Type} (l : List α) (j : Nat) (q : α → Bool) : ((l.take j).filter q).length ≤ j := by
 have h1 := List.length_filter_le q (l.take j)
 rw [List.length_take] at h1
 omega
set_option maxRecDepth 20000 in
set_option maxHeartbeats 8000000 in
theorem refCut_calls (w : World) (S : Nat → Prop) (g : GraphD) (vn ve : Value) (n : Int) (h : Gr w S g vn ve) (hs : g.small) : Calls Tryz.prog 67 #[.agg #[vn, ve, .int .i64 g.nn, .int .i64 g.ne], .int .i64 n] w (Ret2 w (cutOf g n)) := by
 obtain ⟨⟨A1, c1, rfl⟩, ⟨A2, c2, rfl⟩⟩ := h.slices
 have H := Lib.hid h
 have HS := Lib.hid hs
 have hs2 := hs.2.1
 clear h hs
 go_enter Tryz.func67, Tryz.ntmps67
 go_wp2_with fail
 obtain ⟨W0, hW⟩ : ∃ W0, W0 = ((w.alloc (.cells #[.slice A1 g.nodes.length c1, .slice A2 g.edges.length c2, .int .i64 g.nn, .int .i64 g.ne] 31)).alloc (.cells #[.slice none 0 0, .slice none 0 0, .int .i64 0, .int .i64 0] 31)) := ⟨_, rfl⟩
 have KW := Lib.hid (show Below w.heap.size w W0 by rw [hW]; exact ((Below.refl w.heap.size w).alloc (Nat.le_refl _) _).alloc (by simp) _)
 have BX := Lib.hid (show Box4 W0 w.heap.size (.slice A1 g.nodes.length c1) (.slice A2 g.edges.length c2) (.int .i64 g.nn) (.int .i64 g.ne) by
  rw [hW]
  exact (Box4.made w 31 (.slice A1 g.nodes.length c1) (.slice A2 g.edges.length c2) (.int .i64 g.nn) (.int .i64 g.ne)).keep (by rw [Below.heap_alloc _ _ _ (by simp)]))
 have BR := Lib.hid (show Box4 W0 (w.heap.size + 1) (.slice none 0 0) (.slice none 0 0) (.int .i64 0) (.int .i64 0) by
  rw [hW]
  have := (Box4.made (w.alloc (.cells #[.slice A1 g.nodes.length c1, .slice A2 g.edges.length c2, .int .i64 g.nn, .int .i64 g.ne] 31)) 31 (.slice none 0 0) (.slice none 0 0) (.int .i64 0) (.int .i64 0))
  simp only [World.size_alloc] at this
  exact this)
 have s0 : W0.heap.size = w.heap.size + 1 + 1 := by rw [hW]; simp
 rw [← hW]
 have HW := Lib.hid hW
 clear hW
 refine (copyR_calls W0 S g _ _ (H.out.below KW.out) HS.out).mono ?_
 rintro e w1 ⟨vn1, ve1, nvs, rfl, ho1, hb1⟩
 obtain ⟨⟨B1, d1, rfl⟩, ⟨B2, d2, rfl⟩⟩ := ho1.gr.slices
 have s1 := hb1.size
 have K1 := Lib.hid (KW.out.trans (hb1.mono KW.out.size))
 have BX1 := Lib.hid (BX.out.keep (hb1.block _ (by omega)))
 have BR1 := Lib.hid (BR.out.keep (hb1.block _ (by omega)))
 have HO1 := Lib.hid ho1
 clear hb1 ho1 BX BR KW
 have BO := Lib.hid (Box4.made w1 31 (.slice B1 g.nodes.length d1) (.slice none 0 0) (.int .i64 g.nn) (.int .i64 g.ne))
 obtain ⟨W2, hW2⟩ : ∃ W2, W2 = w1.alloc (.cells #[.slice B1 g.nodes.length d1, .slice none 0 0, .int .i64 g.nn, .int .i64 g.ne] 31) := ⟨_, rfl⟩
 have s2 : W2.heap.size = w1.heap.size + 1 := by rw [hW2]; simp
 have hk2 : ∀ k, k < w1.heap.size → W2.heap[k]? = w1.heap[k]? := fun k hk => by rw [hW2, Below.heap_alloc _ _ _ hk]
 have K2 := Lib.hid (show Below w.heap.size w W2 by rw [hW2]; exact K1.out.alloc (by omega) _)
 have BX2 := Lib.hid (BX1.out.keep (hk2 _ (by omega)))
 have BR2 := Lib.hid (BR1.out.keep (hk2 _ (by omega)))
 rw [← hW2] at BO
 have HN2 := Lib.hid (HO1.out.nodes.keepFlat (w' := W2) fun k hk => hk2 k (HO1.out.nodes.lt k hk))
 have HP2 := Lib.hid (HO1.out.pairs.keepG (w' := W2) (S' := fun k => W0.heap.size ≤ k ∧ k < w1.heap.size) fun k hk hl => ⟨hk2 k hl, hk.1, hl⟩)
 have HNB := Lib.hid (show ∀ k, (Value.slice B1 g.nodes.length d1).ownBlock = some k → W0.heap.size ≤ k ∧ k < w1.heap.size from fun k e => ⟨HO1.out.nodes.1 k e, HO1.out.nodes.lt k e⟩)
 have HW2 := Lib.hid hW2
 clear hk2 hW2
 have g0 : w.heap.size < w1.heap.size + 1 := by omega
 have g3 : w1.heap.size < w1.heap.size + 1 := by omega
 have gg : w.heap.size < w1.heap.size := by omega
 obtain ⟨x0, x1, x2, x3, xf⟩ := BX1.out
 have k1 : ¬ w1.heap.size = w.heap.size := by omega
 have k2 : ¬ w.heap.size = w1.heap.size := by omega
 go_wp2
 clear x0 x1 x2 x3 xf
 go_loopw [15] (fun p wr => ∃ (j : Nat) (v : Value), j ≤ g.edges.length ∧ p = .int .i64 (j : Int) ∧ Hid (Own tEdge 75 wr (fun k => w1.heap.size + 1 ≤ k) v ((g.edges.take j).filter fun x => !(x.id == n))) ∧ Hid (Box4 wr w1.heap.size (.slice B1 g.nodes.length d1) v (.int .i64 g.nn) (.int .i64 g.ne)) ∧ Hid (Same (fun k => k < w1.heap.size) W2 wr) ∧ Hid (Below w.heap.size w wr) ∧ w1.heap.size + 1 ≤ wr.heap.size) (fun p _ => g.edges.length - (intOf p).toNat)
 case atStart =>
  rw [← HW2.out]
  exact ⟨0, _, by omega, rfl, Own.nil _ _ _ _, BO, Lib.hid (fun _ _ _ => rfl), K2, by omega⟩
 case round =>
  obtain ⟨wa, rfl⟩ : ∃ wa, wa = wr := ⟨wr, rfl⟩
  obtain ⟨j, v, hj, rfl, ho, hbo, hsm, hb, hsz⟩ := hrel
  have hwa := hb.out.size
  by_cases hlt : j < g.edges.length
  case neg =>
   obtain rfl : j = g.edges.length := by omega
   have ho := Lib.hid (show Own tEdge 75 wa (fun k => w1.heap.size + 1 ≤ k) v (g.edges.filter fun x => !(x.id == n)) by have h9 := ho.out; rw [List.take_length] at h9; exact h9)
   obtain ⟨Av, cv, hv⟩ := ho.out.slice
   subst hv
   have BXa := Lib.hid (BX2.out.keep (hsm.out w.heap.size (by omega) (by omega)))
   have BRa := Lib.hid (BR2.out.keep (hsm.out (w.heap.size + 1) (by omega) (by omega)))
   have HNa := Lib.hid (HN2.out.keepFlat (w' := wa) fun k hk => hsm.out k (HNB.out k hk).2 (by have := HNB.out k hk; omega))
   have HPa := Lib.hid (HP2.out.keepG (w' := wa) (S' := fun k => W0.heap.size ≤ k) fun k hk hl => ⟨hsm.out k hk.2 hl, hk.1⟩)
   have hl1 := List.length_filter_le (fun x : EdgeD => !(x.id == n)) g.edges
   have HCO := Lib.hid (show cutOf g n = if (g.edges.filter fun x => !(x.id == n)).length = g.edges.length then (GraphD.zero, 2) else (⟨g.nodes, g.edges.filter fun x => !(x.id == n), g.nn, g.ne⟩, 0) from rfl)
   obtain ⟨es, hes⟩ : ∃ es, es = g.edges.filter fun x => !(x.id == n) := ⟨_, rfl⟩
   rw [← hes] at ho HCO hbo hl1
   clear hes
   have q1 : w.heap.size < wa.heap.size := by omega
   have q2 : w.heap.size + 1 < wa.heap.size := by omega
   have q3 : w1.heap.size < wa.heap.size := by omega
   obtain ⟨x0, x1, x2, x3, xf⟩ := BXa.out
   obtain ⟨y0, y1, y2, y3, yf⟩ := BRa.out
   obtain ⟨z0, z1, z2, z3, zf⟩ := hbo.out
   by_cases hL : es.length = g.edges.length
   ·
    have HE := Lib.hid (show cutOf g n = (GraphD.zero, 2) by rw [HCO.out, if_pos hL])
    go_wp2
    refine bodyPost_ret (v := .tuple #[.agg #[.slice none 0 0, .slice none 0 0, .int .i64 0, .int .i64 0], .int .i64 2]) (by simp [results, Tryz.results67, go_sem, y0, y1, y2, y3]; try rfl) rfl ?_
    rw [HE.out]
    exact ⟨_, _, rfl, Gr.zero _ _ _ _, set4_below hb.out (by omega) _ _ _ _⟩
   ·
    have HE := Lib.hid (show cutOf g n = (⟨g.nodes, es, g.nn, g.ne⟩, 0) by rw [HCO.out, if_neg hL])
    go_wp2
    refine bodyPost_ret (v := .tuple #[.agg #[.slice B1 g.nodes.length d1, .slice Av es.length cv, .int .i64 g.nn, .int .i64 g.ne], .int .i64 0]) (by simp [results, Tryz.results67, go_sem, y0, y1, y2, y3]; try rfl) rfl ?_
    rw [HE.out]
    have hSm : Same (fun k => w.heap.size + 1 + 1 ≤ k) wa (set4 wa (w.heap.size + 1) (.slice B1 g.nodes.length d1) (.slice Av es.length cv) (.int .i64 g.nn) (.int .i64 g.ne)) := fun k hk hl => set4_heap _ _ _ _ _ _ k (by omega)
    exact ⟨_, _, rfl, Gr.mono (S := fun k => w.heap.size + 1 + 1 ≤ k) (Gr.move (w := wa) ⟨⟨nvs, HNa.out.row.mono fun k hk _ => by omega, HPa.out.mono fun k hk _ => by omega⟩, ho.out.row.mono fun k hk _ => by omega⟩ hSm) (fun k hk _ => by omega), set4_below hb.out (by omega) _ _ _ _⟩
  obtain ⟨x, hx⟩ := getElem?_of_lt hlt
  obtain ⟨be, oe, hAe, _, hbl, z0, z1, z2⟩ := (H.out.below hb.out).atE hx
  have HSU := Lib.hid (filter_take_succ hx fun x : EdgeD => !(x.id == n))
  have hfl := filter_take_len g.edges j fun x : EdgeD => !(x.id == n)
  subst hAe
  clear hx
  have q1 : wa.heap.size < wa.heap.size + 1 := by omega
  have q2 : be < wa.heap.size + 1 := by omega
  have q3 : w1.heap.size < wa.heap.size + 1 := by omega
  have q4 : w1.heap.size < wa.heap.size := by omega
  have KA := Lib.hid (Below.heap1 wa (.cells #[.int .i64 x.id, .int .i64 x.frm, .int .i64 x.to] 75))
  by_cases hn : x.id = n
  ·
   have HF := Lib.hid (show (g.edges.take (j + 1)).filter (fun x => !(x.id == n)) = (g.edges.take j).filter (fun x => !(x.id == n)) by rw [HSU.out, if_neg (by simp [hn]), List.append_nil])
   replace hn : (x.id == n) = true := beq_iff_eq.mpr hn
   go_wp2
   go_roundw
   case rel => exact ⟨j + 1, v, by omega, by first | (go_num; done) | (go_num; omega), Lib.hid (by rw [HF.out]; exact ho.out.below KA.out), Lib.hid (hbo.out.keep (KA.out.block _ q4)), Lib.hid (hsm.out.trans (by omega) (Same.of_below' KA.out (fun k (hk : k < w1.heap.size) => by omega))), Lib.hid (hb.out.trans (KA.out.mono hwa)), by simp; omega⟩
   case measure => simp [intOf]; omega
  have HF := Lib.hid (show (g.edges.take (j + 1)).filter (fun x => !(x.id == n)) = (g.edges.take j).filter (fun x => !(x.id == n)) ++ [x] by rw [HSU.out, if_pos (by simp [hn])])
  replace hn : (x.id == n) = false := beq_eq_false_iff_ne.mpr hn
  obtain ⟨y0, y1, y2, y3, yf⟩ := hbo.out
  have HOA := Lib.hid (ho.out.below KA.out)
  go_wp2_with (at_builtin; refine wpList_own_appendS (ty := tEdge) (w := w) (S := fun k => w1.heap.size + 1 ≤ k) (Sy := fun _ => False) (v := v) (xs := (g.edges.take j).filter fun x => !(x.id == n)) (x := x) rfl _ _ 29 75 24 _ rfl elemEdges rfl ?hown rfl (by simp) rfl ?hB ?hge ?hSn ?hbytes ?hlen (fun _ h => h.elim) ?_)
  case hown => exact HOA.out
  case hB => exact hb.out.trans (KA.out.mono hwa)
  case hge => exact fun k hk => by have := ho.out.1 k hk; omega
  case hSn => intro k hk; simp at hk; show _ ≤ k; omega
  case hbytes => omega
  case hlen => unfold maxLen; omega
  intro v2 w4 ho2 hb2 hge2 hg2
  have s4 := hg2.size
  simp only [World.size_alloc] at s4
  obtain ⟨A4, c4, hv4⟩ := ho2.slice
  obtain ⟨L4, hL4⟩ : ∃ L, L = ((g.edges.take j).filter (fun x => !(x.id == n)) ++ [x]).length := ⟨_, rfl⟩
  rw [← hL4] at hv4
  clear hL4
  subst hv4
  have NB := Lib.hid (((hbo.out.keep (KA.out.block _ q4)).keep (hg2.block w1.heap.size (by simp; omega) (fun e => by have := ho.out.1 _ e.symm; omega))).set1 (.slice A4 L4 c4))
  have hv2 : ∀ k, (Value.slice A4 L4 c4).ownBlock = some k → w1.heap.size + 1 ≤ k := fun k hk => ho2.1 k hk
  have NO := Lib.hid (ho2.keepFlat (w' := w4.setCell ⟨w1.heap.size, 1, none⟩ (.slice A4 L4 c4)) fun k hk => Below.heap_setCell _ ⟨w1.heap.size, 1, none⟩ _ k (by have := hv2 k hk; simp only; omega))
  have NS := Lib.hid (show Same (fun k => k < w1.heap.size) W2 (w4.setCell ⟨w1.heap.size, 1, none⟩ (.slice A4 L4 c4)) from hsm.out.trans (by omega) (fun k (hk : k < w1.heap.size) hl => (Below.heap_setCell _ ⟨w1.heap.size, 1, none⟩ _ k (by simp only; omega)).trans ((hg2.block k (by simp; omega) (fun e => by have := ho.out.1 _ e.symm; omega)).trans (KA.out.block k hl))))
  have NBe := Lib.hid (hb2.setCell (p := ⟨w1.heap.size, 1, none⟩) (by simp only; omega) (.slice A4 L4 c4))
  have m0 : w4.cell? ⟨w1.heap.size, 1, none⟩ = some v := ((hbo.out.keep (KA.out.block _ q4)).keep (hg2.block w1.heap.size (by simp; omega) (fun e => by have := ho.out.1 _ e.symm; omega))).c1
  have m1 : w4.frozen? ⟨w1.heap.size, 1, none⟩ = false := ((hbo.out.keep (KA.out.block _ q4)).keep (hg2.block w1.heap.size (by simp; omega) (fun e => by have := ho.out.1 _ e.symm; omega))).fz 1
  have q5 : w1.heap.size < w4.heap.size := by omega
  clear ho2 hb2 hge2 hg2 hv2 y0 y1 y2 y3 yf z0 z1 z2
  go_wp2
  go_roundw
  case rel => exact ⟨j + 1, _, by omega, by first | (go_num; done) | (go_num; omega), Lib.hid (by rw [HF.out]; exact NO.out), NB, NS, NBe, by simp; omega⟩
  case measure => simp [intOf]; omega
end Go.Proofs.YtpehmmdbjakkpaaGreat
namespace Go.Proofs.YtpehmmdbjakkpaaGreat
open Go.RowKit Go.Shelf
set_option linter.unusedSimpArgs false
set_option linter.unusedVariables false
def Ret1 (w : World) (g : GraphD) (e : Ending) (w' : World) : Prop := ∃ vn ve, e = .returned (.agg #[vn, ve, .int .i64 g.nn, .int .i64 g.ne]) ∧ Gr w' (fun k => w.heap.size ≤ k) g vn ve ∧ Below w.heap.size w w'
set_option maxRecDepth 20000 in
set_option maxHeartbeats 8000000 in
theorem refWithout_calls (w : World) (S : Nat → Prop) (g : GraphD) (vn ve : Value) (n : Int) (h : Gr w S g vn ve) (hs : g.small) : Calls Tryz.prog 108 #[.agg #[vn, ve, .int .i64 g.nn, .int .i64 g.ne], .int .i64 n] w (Ret1 w ⟨g.nodes.filter fun x => !(x.id == n), g.edges, g.nn, g.ne⟩) := by
 obtain ⟨⟨A1, c1, rfl⟩, ⟨A2, c2, rfl⟩⟩ := h.slices
 have H := Lib.hid h
 have HS := Lib.hid hs
 have hs1 := hs.1
 clear h hs
 go_enter Tryz.func108, Tryz.ntmps108
 go_wp2_with fail
 obtain ⟨W0, hW⟩ : ∃ W0, W0 = ((w.alloc (.cells #[.slice A1 g.nodes.length c1, .slice A2 g.edges.length c2, .int .i64 g.nn, .int .i64 g.ne] 31)).alloc (.cells #[.slice none 0 0, .slice none 0 0, .int .i64 0, .int .i64 0] 31)) := ⟨_, rfl⟩
 have KW := Lib.hid (show Below w.heap.size w W0 by rw [hW]; exact ((Below.refl w.heap.size w).alloc (Nat.le_refl _) _).alloc (by simp) _)
 have BX := Lib.hid (show Box4 W0 w.heap.size (.slice A1 g.nodes.length c1) (.slice A2 g.edges.length c2) (.int .i64 g.nn) (.int .i64 g.ne) by
  rw [hW]
  exact (Box4.made w 31 (.slice A1 g.nodes.length c1) (.slice A2 g.edges.length c2) (.int .i64 g.nn) (.int .i64 g.ne)).keep (by rw [Below.heap_alloc _ _ _ (by simp)]))
 have BR := Lib.hid (show Box4 W0 (w.heap.size + 1) (.slice none 0 0) (.slice none 0 0) (.int .i64 0) (.int .i64 0) by
  rw [hW]
  have := (Box4.made (w.alloc (.cells #[.slice A1 g.nodes.length c1, .slice A2 g.edges.length c2, .int .i64 g.nn, .int .i64 g.ne] 31)) 31 (.slice none 0 0) (.slice none 0 0) (.int .i64 0) (.int .i64 0))
  simp only [World.size_alloc] at this
  exact this)
 have s0 : W0.heap.size = w.heap.size + 1 + 1 := by rw [hW]; simp
 rw [← hW]
 have HW := Lib.hid hW
 clear hW
 refine (copyR_calls W0 S g _ _ (H.out.below KW.out) HS.out).mono ?_
 rintro e w1 ⟨vn1, ve1, nvs, rfl, ho1, hb1⟩
 obtain ⟨⟨B1, d1, rfl⟩, ⟨B2, d2, rfl⟩⟩ := ho1.gr.slices
 have s1 := hb1.size
 have K1 := Lib.hid (KW.out.trans (hb1.mono KW.out.size))
 have BX1 := Lib.hid (BX.out.keep (hb1.block _ (by omega)))
 have BR1 := Lib.hid (BR.out.keep (hb1.block _ (by omega)))
 have HO1 := Lib.hid ho1
 clear hb1 ho1 BX BR KW
 have BO := Lib.hid (Box4.made w1 31 (.slice none 0 0) (.slice B2 g.edges.length d2) (.int .i64 g.nn) (.int .i64 g.ne))
 obtain ⟨W2, hW2⟩ : ∃ W2, W2 = w1.alloc (.cells #[.slice none 0 0, .slice B2 g.edges.length d2, .int .i64 g.nn, .int .i64 g.ne] 31) := ⟨_, rfl⟩
 have s2 : W2.heap.size = w1.heap.size + 1 := by rw [hW2]; simp
 have hk2 : ∀ k, k < w1.heap.size → W2.heap[k]? = w1.heap[k]? := fun k hk => by rw [hW2, Below.heap_alloc _ _ _ hk]
 have K2 := Lib.hid (show Below w.heap.size w W2 by rw [hW2]; exact K1.out.alloc (by omega) _)
 have BX2 := Lib.hid (BX1.out.keep (hk2 _ (by omega)))
 have BR2 := Lib.hid (BR1.out.keep (hk2 _ (by omega)))
 rw [← hW2] at BO
 have HN2 := Lib.hid (HO1.out.edges.keepFlat (w' := W2) fun k hk => hk2 k (HO1.out.edges.lt k hk))
 have HNB := Lib.hid (show ∀ k, (Value.slice B2 g.edges.length d2).ownBlock = some k → W0.heap.size ≤ k ∧ k < w1.heap.size from fun k e => ⟨HO1.out.edges.1 k e, HO1.out.edges.lt k e⟩)
 have HW2 := Lib.hid hW2
 clear hk2 hW2
 have g0 : w.heap.size < w1.heap.size + 1 := by omega
 have g3 : w1.heap.size < w1.heap.size + 1 := by omega
 have gg : w.heap.size < w1.heap.size := by omega
 obtain ⟨x0, x1, x2, x3, xf⟩ := BX1.out
 have k1 : ¬ w1.heap.size = w.heap.size := by omega
 have k2 : ¬ w.heap.size = w1.heap.size := by omega
 go_wp2_with fail
 rw [← HW2.out]
 refine (copyR_calls W2 S g _ _ (H.out.below K2.out) HS.out).mono ?_
 rintro e w3 ⟨vn3, ve3, nvs3, rfl, ho3, hb3⟩
 obtain ⟨⟨B3, d3, rfl⟩, ⟨B4, d4, rfl⟩⟩ := ho3.gr.slices
 have s3 := hb3.size
 have K3 := Lib.hid (K2.out.trans (hb3.mono K2.out.size))
 have BX3 := Lib.hid (BX2.out.keep (hb3.block _ (by omega)))
 have BR3 := Lib.hid (BR2.out.keep (hb3.block _ (by omega)))
 have BO3 := Lib.hid (BO.out.keep (hb3.block _ (by omega)))
 have HE3 := Lib.hid (HN2.out.below hb3)
 have HR3 := Lib.hid ho3.nodes.row
 have HP3 := Lib.hid (ho3.pairs.mono (S' := fun k => W2.heap.size ≤ k ∧ k < w3.heap.size) fun k hk hl => ⟨hk.1, hl⟩)
 have hl3 : nvs3.length = g.nodes.length := ho3.pairs.len
 have HL3 := Lib.hid hl3
 have HNB := Lib.hid (show ∀ k, (Value.slice B2 g.edges.length d2).ownBlock = some k → w1.heap.size ≠ k ∧ k < w1.heap.size ∧ w.heap.size + 1 + 1 ≤ k from fun k hk => by have := HNB.out k hk; omega)
 clear ho3 hb3 BX2 BR2 BO HN2 x0 x1 x2 x3 xf hl3
 have hfd : ∀ W : World, (Instr.field 31 (.agg #[.slice B3 g.nodes.length d3, .slice B4 g.edges.length d4, .int .i64 g.nn, .int .i64 g.ne]) 0).run Tryz.prog W = .ok (.slice B3 g.nodes.length d3) W := fun _ => by kernel_rfl
 go_wp2
 clear hfd
 go_loopw [15] (fun p wr => ∃ (j : Nat) (v : Value), j ≤ g.nodes.length ∧ p = .int .i64 (j : Int) ∧ Hid (Own tNV 72 wr (fun k => w3.heap.size ≤ k) v ((nvs3.take j).filter fun x => !(x.id == n))) ∧ Hid (Box4 wr w1.heap.size v (.slice B2 g.edges.length d2) (.int .i64 g.nn) (.int .i64 g.ne)) ∧ Hid (Same (fun k => k < w3.heap.size ∧ k ≠ w1.heap.size) w3 wr) ∧ Hid (Below w.heap.size w wr) ∧ w3.heap.size ≤ wr.heap.size) (fun p _ => g.nodes.length - (intOf p).toNat)
 case atStart => exact ⟨0, _, by omega, rfl, Own.nil _ _ _ _, BO3, Lib.hid (fun _ _ _ => rfl), K3, by omega⟩
 case round =>
  obtain ⟨wa, rfl⟩ : ∃ wa, wa = wr := ⟨wr, rfl⟩
  obtain ⟨j, v, hj, rfl, ho, hbo, hsm, hb, hsz⟩ := hrel
  have hwa := hb.out.size
  by_cases hlt : j < g.nodes.length
  case neg =>
   obtain rfl : j = g.nodes.length := by omega
   have ho := Lib.hid (show Own tNV 72 wa (fun k => w3.heap.size ≤ k) v (nvs3.filter fun x => !(x.id == n)) by have h9 := ho.out; rw [← HL3.out, List.take_length] at h9; exact h9)
   obtain ⟨Av, cv, hv⟩ := ho.out.slice
   subst hv
   have BRa := Lib.hid (BR3.out.keep (hsm.out (w.heap.size + 1) ⟨by omega, by omega⟩ (by omega)))
   have HEa := Lib.hid (HE3.out.keepFlat (w' := wa) fun k hk => hsm.out k ⟨by have := HNB.out k hk; omega, by have := HNB.out k hk; omega⟩ (by have := HNB.out k hk; omega))
   have HPa := Lib.hid ((HP3.out.keepG (w' := wa) (S' := fun k => w.heap.size + 1 + 1 ≤ k) fun k hk hl => ⟨hsm.out k ⟨hk.2, by omega⟩ hl, by omega⟩).filter n)
   have hfl := filter_take_len nvs3 nvs3.length fun x => !(x.id == n)
   rw [List.take_length, HL3.out] at hfl
   obtain ⟨es, hes⟩ : ∃ es, es = nvs3.filter fun x => !(x.id == n) := ⟨_, rfl⟩
   rw [← hes] at ho HPa hbo hfl
   have HLF := Lib.hid (show es.length = (g.nodes.filter fun x => !(x.id == n)).length from HPa.out.len)
   clear hes
   have q2 : w.heap.size + 1 < wa.heap.size := by omega
   have q3 : w1.heap.size < wa.heap.size := by omega
   obtain ⟨y0, y1, y2, y3, yf⟩ := BRa.out
   obtain ⟨z0, z1, z2, z3, zf⟩ := hbo.out
   go_wp2
   refine bodyPost_ret (v := .agg #[.slice Av es.length cv, .slice B2 g.edges.length d2, .int .i64 g.nn, .int .i64 g.ne]) (by simp [results, Tryz.results108, go_sem, y0, y1, y2, y3]; try rfl) rfl ?_
   have hSm : Same (fun k => w.heap.size + 1 + 1 ≤ k) wa (set4 wa (w.heap.size + 1) (.slice Av es.length cv) (.slice B2 g.edges.length d2) (.int .i64 g.nn) (.int .i64 g.ne)) := fun k hk hl => set4_heap _ _ _ _ _ _ k (by omega)
   exact ⟨_, _, rfl, Gr.mono (S := fun k => w.heap.size + 1 + 1 ≤ k) (Gr.move (w := wa) ⟨⟨es, ho.out.row.mono fun k hk _ => by omega, HPa.out⟩, HEa.out.row.mono fun k hk _ => by omega⟩ hSm) (fun k hk _ => by omega), set4_below hb.out (by omega) _ _ _ _⟩
  obtain ⟨x, hx⟩ := getElem?_of_lt (show j < nvs3.length by rw [HL3.out]; exact hlt)
  have hrow : Row tNV wa (fun k => W2.heap.size ≤ k ∧ k < w3.heap.size) (.slice B3 g.nodes.length d3) nvs3 := HR3.out.bound.move (hsm.out.mono fun k hk => ⟨hk.2, by omega⟩)
  obtain ⟨be, oe, hAe, _, hbl, z0, z1⟩ := hrow.atNV hx
  have HSU := Lib.hid (filter_take_succ hx fun x : NV => !(x.id == n))
  have hfl := filter_take_len nvs3 j fun x : NV => !(x.id == n)
  subst hAe
  clear hx hrow
  have q1 : wa.heap.size < wa.heap.size + 1 := by omega
  have q2 : be < wa.heap.size + 1 := by omega
  have q3 : w1.heap.size < wa.heap.size + 1 := by omega
  have q4 : w1.heap.size < wa.heap.size := by omega
  have KA := Lib.hid (Below.heap1 wa (.cells #[.int .i64 x.id, .slice x.A x.n x.c] 72))
  by_cases hn : x.id = n
  ·
   have HF := Lib.hid (show (nvs3.take (j + 1)).filter (fun x => !(x.id == n)) = (nvs3.take j).filter (fun x => !(x.id == n)) by rw [HSU.out, if_neg (by simp [hn]), List.append_nil])
   replace hn : (x.id == n) = true := beq_iff_eq.mpr hn
   go_wp2
   go_roundw
   case rel => exact ⟨j + 1, v, by omega, by first | (go_num; done) | (go_num; omega), Lib.hid (by rw [HF.out]; exact ho.out.below KA.out), Lib.hid (hbo.out.keep (KA.out.block _ q4)), Lib.hid (hsm.out.trans (by omega) (Same.of_below' KA.out (fun k hk => by omega))), Lib.hid (hb.out.trans (KA.out.mono hwa)), by simp; omega⟩
   case measure => simp [intOf]; omega
  have HF := Lib.hid (show (nvs3.take (j + 1)).filter (fun x => !(x.id == n)) = (nvs3.take j).filter (fun x => !(x.id == n)) ++ [x] by rw [HSU.out, if_pos (by simp [hn])])
  replace hn : (x.id == n) = false := beq_eq_false_iff_ne.mpr hn
  obtain ⟨y0, y1, y2, y3, yf⟩ := hbo.out
  have HOA := Lib.hid (ho.out.below KA.out)
  go_wp2_with (at_builtin; refine wpList_own_appendS (ty := tNV) (w := w) (S := fun k => w3.heap.size ≤ k) (Sy := fun _ => False) (v := v) (xs := (nvs3.take j).filter fun x => !(x.id == n)) (x := x) rfl _ _ 28 72 32 _ rfl elemNodes rfl ?hown rfl (by simp) rfl ?hB ?hge ?hSn ?hbytes ?hlen (fun _ h => h.elim) ?_)
  case hown => exact HOA.out
  case hB => exact hb.out.trans (KA.out.mono hwa)
  case hge => exact fun k hk => by have := ho.out.1 k hk; omega
  case hSn => intro k hk; simp at hk; show _ ≤ k; omega
  case hbytes => omega
  case hlen => unfold maxLen; omega
  intro v2 w4 ho2 hb2 hge2 hg2
  have s4 := hg2.size
  simp only [World.size_alloc] at s4
  obtain ⟨A4, c4, hv4⟩ := ho2.slice
  obtain ⟨L4, hL4⟩ : ∃ L, L = ((nvs3.take j).filter (fun x => !(x.id == n)) ++ [x]).length := ⟨_, rfl⟩
  rw [← hL4] at hv4
  clear hL4
  subst hv4
  have NB := Lib.hid (((hbo.out.keep (KA.out.block _ q4)).keep (hg2.block w1.heap.size (by simp; omega) (fun e => by have := ho.out.1 _ e.symm; omega))).set0 (.slice A4 L4 c4))
  have hv2 : ∀ k, (Value.slice A4 L4 c4).ownBlock = some k → w3.heap.size ≤ k := fun k hk => ho2.1 k hk
  have NO := Lib.hid (ho2.keepFlat (w' := w4.setCell ⟨w1.heap.size, 0, none⟩ (.slice A4 L4 c4)) fun k hk => Below.heap_setCell _ ⟨w1.heap.size, 0, none⟩ _ k (by have := hv2 k hk; simp only; omega))
  have NS := Lib.hid (show Same (fun k => k < w3.heap.size ∧ k ≠ w1.heap.size) w3 (w4.setCell ⟨w1.heap.size, 0, none⟩ (.slice A4 L4 c4)) from hsm.out.trans (by omega) (fun k (hk : k < w3.heap.size ∧ k ≠ w1.heap.size) hl => (Below.heap_setCell _ ⟨w1.heap.size, 0, none⟩ _ k (by simp only; omega)).trans ((hg2.block k (by simp; omega) (fun e => by have := ho.out.1 _ e.symm; omega)).trans (KA.out.block k hl))))
  have NBe := Lib.hid (hb2.setCell (p := ⟨w1.heap.size, 0, none⟩) (by simp only; omega) (.slice A4 L4 c4))
  have m0 : w4.cell? ⟨w1.heap.size, 0, none⟩ = some v := ((hbo.out.keep (KA.out.block _ q4)).keep (hg2.block w1.heap.size (by simp; omega) (fun e => by have := ho.out.1 _ e.symm; omega))).c0
  have m1 : w4.frozen? ⟨w1.heap.size, 0, none⟩ = false := ((hbo.out.keep (KA.out.block _ q4)).keep (hg2.block w1.heap.size (by simp; omega) (fun e => by have := ho.out.1 _ e.symm; omega))).fz 0
  have q5 : w1.heap.size < w4.heap.size := by omega
  clear ho2 hb2 hge2 hg2 hv2 y0 y1 y2 y3 yf z0 z1
  go_wp2
  go_roundw
  case rel => exact ⟨j + 1, _, by omega, by first | (go_num; done) | (go_num; omega), Lib.hid (by rw [HF.out]; exact NO.out), NB, NS, NBe, by simp; omega⟩
  case measure => simp [intOf]; omega
end Go.Proofs.YtpehmmdbjakkpaaGreat
namespace Go.Proofs.YtpehmmdbjakkpaaGreat
open Go.RowKit Go.Shelf
set_option linter.unusedSimpArgs false
set_option linter.unusedVariables false
def dropQ (n : Int) (x : EdgeD) : Bool := !(x.frm == n || x.to == n)
set_option maxRecDepth 20000 in
set_option maxHeartbeats 8000000 in
theorem refDrop_calls (w : World) (S : Nat → Prop) (g : GraphD) (vn ve : Value) (n : Int) (h : Gr w S g vn ve) (hs : g.small) : Calls Tryz.prog 72 #[.agg #[vn, ve, .int .i64 g.nn, .int .i64 g.ne], .int .i64 n] w (Ret2 w (dropOf g n)) := by
 obtain ⟨⟨A1, c1, rfl⟩, ⟨A2, c2, rfl⟩⟩ := h.slices
 have H := Lib.hid h
 have HS := Lib.hid hs
 have hs2 := hs.2.1
 have hs1 := hs.1
 clear h hs
 go_enter Tryz.func72, Tryz.ntmps72
 go_wp2_with fail
 obtain ⟨W0, hW⟩ : ∃ W0, W0 = ((w.alloc (.cells #[.slice A1 g.nodes.length c1, .slice A2 g.edges.length c2, .int .i64 g.nn, .int .i64 g.ne] 31)).alloc (.cells #[.slice none 0 0, .slice none 0 0, .int .i64 0, .int .i64 0] 31)) := ⟨_, rfl⟩
 have KW := Lib.hid (show Below w.heap.size w W0 by rw [hW]; exact ((Below.refl w.heap.size w).alloc (Nat.le_refl _) _).alloc (by simp) _)
 have BX := Lib.hid (show Box4 W0 w.heap.size (.slice A1 g.nodes.length c1) (.slice A2 g.edges.length c2) (.int .i64 g.nn) (.int .i64 g.ne) by
  rw [hW]
  exact (Box4.made w 31 (.slice A1 g.nodes.length c1) (.slice A2 g.edges.length c2) (.int .i64 g.nn) (.int .i64 g.ne)).keep (by rw [Below.heap_alloc _ _ _ (by simp)]))
 have BR := Lib.hid (show Box4 W0 (w.heap.size + 1) (.slice none 0 0) (.slice none 0 0) (.int .i64 0) (.int .i64 0) by
  rw [hW]
  have := (Box4.made (w.alloc (.cells #[.slice A1 g.nodes.length c1, .slice A2 g.edges.length c2, .int .i64 g.nn, .int .i64 g.ne] 31)) 31 (.slice none 0 0) (.slice none 0 0) (.int .i64 0) (.int .i64 0))
  simp only [World.size_alloc] at this
  exact this)
 have s0 : W0.heap.size = w.heap.size + 1 + 1 := by rw [hW]; simp
 rw [← hW]
 have HW := Lib.hid hW
 clear hW
 refine (refAt_calls W0 S g _ _ n (H.out.below KW.out) hs1).mono ?_
 rintro e wA ⟨rfl, hbA⟩
 have sA := hbA.size
 have KA := Lib.hid (KW.out.trans (hbA.mono KW.out.size))
 have BXA := Lib.hid (BX.out.keep (hbA.block _ (by omega)))
 have BRA := Lib.hid (BR.out.keep (hbA.block _ (by omega)))
 clear hbA BX BR KW HW
 have ga : w.heap.size < wA.heap.size := by omega
 have gb : w.heap.size + 1 < wA.heap.size := by omega
 obtain ⟨x0, x1, x2, x3, xf⟩ := BXA.out
 by_cases ha : atOf g.nodes n < 0
 ·
  have HE := Lib.hid (show dropOf g n = (GraphD.zero, 2) by unfold dropOf; rw [if_pos ha])
  have hd : decide (atOf g.nodes n < 0) = true := decide_eq_true ha
  clear ha
  generalize atOf g.nodes n = p at *
  obtain ⟨y0, y1, y2, y3, yf⟩ := BRA.out
  go_wp2
  refine bodyPost_ret (v := .tuple #[.agg #[.slice none 0 0, .slice none 0 0, .int .i64 0, .int .i64 0], .int .i64 2]) (by simp [results, Tryz.results72, go_sem, y0, y1, y2, y3]; try rfl) rfl ?_
  rw [HE.out]
  exact ⟨_, _, rfl, Gr.zero _ _ _ _, set4_below KA.out (by omega) _ _ _ _⟩
 have HE := Lib.hid (show dropOf g n = (⟨g.nodes.filter fun x => !(x.id == n), g.edges.filter (dropQ n), g.nn, g.ne⟩, 0) by unfold dropOf; rw [if_neg ha]; rfl)
 have hd : decide (atOf g.nodes n < 0) = false := decide_eq_false ha
 clear ha
 generalize atOf g.nodes n = p at *
 go_wp2_with fail
 refine (refWithout_calls wA S g _ _ n (H.out.below KA.out) HS.out).mono ?_
 rintro e w1 ⟨vn1, ve1, rfl, ho1, hb1⟩
 obtain ⟨⟨B1, d1, rfl⟩, ⟨B2, d2, rfl⟩⟩ := ho1.slices
 have s1 := hb1.size
 have K1 := Lib.hid (KA.out.trans (hb1.mono KA.out.size))
 have BX1 := Lib.hid (BXA.out.keep (hb1.block _ (by omega)))
 have BR1 := Lib.hid (BRA.out.keep (hb1.block _ (by omega)))
 have HO1 := Lib.hid ho1
 obtain ⟨gn, hgn⟩ : ∃ gn, gn = g.nodes.filter fun x => !(x.id == n) := ⟨_, rfl⟩
 simp only at HO1 ⊢
 rw [← hgn] at HO1 HE ⊢
 clear hb1 ho1 BXA BRA KA x0 x1 x2 x3 xf hgn
 have BO := Lib.hid (Box4.made w1 31 (.slice B1 gn.length d1) (.slice none 0 0) (.int .i64 g.nn) (.int .i64 g.ne))
 obtain ⟨W2, hW2⟩ : ∃ W2, W2 = w1.alloc (.cells #[.slice B1 gn.length d1, .slice none 0 0, .int .i64 g.nn, .int .i64 g.ne] 31) := ⟨_, rfl⟩
 have s2 : W2.heap.size = w1.heap.size + 1 := by rw [hW2]; simp
 have hk2 : ∀ k, k < w1.heap.size → W2.heap[k]? = w1.heap[k]? := fun k hk => by rw [hW2, Below.heap_alloc _ _ _ hk]
 have K2 := Lib.hid (show Below w.heap.size w W2 by rw [hW2]; exact K1.out.alloc (by omega) _)
 have BX2 := Lib.hid (BX1.out.keep (hk2 _ (by omega)))
 have BR2 := Lib.hid (BR1.out.keep (hk2 _ (by omega)))
 rw [← hW2] at BO
 have HG2 := Lib.hid (HO1.out.bound.move (w' := W2) fun k hk _ => hk2 k hk.2)
 have HW2 := Lib.hid hW2
 clear hk2 hW2
 have g0 : w.heap.size < w1.heap.size + 1 := by omega
 have g3 : w1.heap.size < w1.heap.size + 1 := by omega
 have gg : w.heap.size < w1.heap.size := by omega
 obtain ⟨x0, x1, x2, x3, xf⟩ := BX1.out
 have k1 : ¬ w1.heap.size = w.heap.size := by omega
 have k2 : ¬ w.heap.size = w1.heap.size := by omega
 go_wp2
 clear x0 x1 x2 x3 xf
 go_loopw [21] (fun p wr => ∃ (j : Nat) (v : Value), j ≤ g.edges.length ∧ p = .int .i64 (j : Int) ∧ Hid (Own tEdge 75 wr (fun k => w1.heap.size + 1 ≤ k) v ((g.edges.take j).filter (dropQ n))) ∧ Hid (Box4 wr w1.heap.size (.slice B1 gn.length d1) v (.int .i64 g.nn) (.int .i64 g.ne)) ∧ Hid (Same (fun k => k < w1.heap.size) W2 wr) ∧ Hid (Below w.heap.size w wr) ∧ w1.heap.size + 1 ≤ wr.heap.size) (fun p _ => g.edges.length - (intOf p).toNat)
 case atStart =>
  rw [← HW2.out]
  exact ⟨0, _, by omega, rfl, Own.nil _ _ _ _, BO, Lib.hid (fun _ _ _ => rfl), K2, by omega⟩
 case round =>
  obtain ⟨wa, rfl⟩ : ∃ wa, wa = wr := ⟨wr, rfl⟩
  obtain ⟨j, v, hj, rfl, ho, hbo, hsm, hb, hsz⟩ := hrel
  have hwa := hb.out.size
  by_cases hlt : j < g.edges.length
  case neg =>
   obtain rfl : j = g.edges.length := by omega
   have ho := Lib.hid (show Own tEdge 75 wa (fun k => w1.heap.size + 1 ≤ k) v (g.edges.filter (dropQ n)) by have h9 := ho.out; rw [List.take_length] at h9; exact h9)
   obtain ⟨Av, cv, hv⟩ := ho.out.slice
   subst hv
   have BRa := Lib.hid (BR2.out.keep (hsm.out (w.heap.size + 1) (by omega) (by omega)))
   have HGa := Lib.hid (HG2.out.move (w' := wa) fun k hk hl => hsm.out k hk.2 hl)
   have hl1 := List.length_filter_le (dropQ n) g.edges
   obtain ⟨es, hes⟩ : ∃ es, es = g.edges.filter (dropQ n) := ⟨_, rfl⟩
   rw [← hes] at ho HE hbo hl1
   clear hes
   have q2 : w.heap.size + 1 < wa.heap.size := by omega
   have q3 : w1.heap.size < wa.heap.size := by omega
   obtain ⟨y0, y1, y2, y3, yf⟩ := BRa.out
   obtain ⟨z0, z1, z2, z3, zf⟩ := hbo.out
   go_wp2
   refine bodyPost_ret (v := .tuple #[.agg #[.slice B1 gn.length d1, .slice Av es.length cv, .int .i64 g.nn, .int .i64 g.ne], .int .i64 0]) (by simp [results, Tryz.results72, go_sem, y0, y1, y2, y3]; try rfl) rfl ?_
   rw [HE.out]
   have hSm : Same (fun k => w.heap.size + 1 + 1 ≤ k) wa (set4 wa (w.heap.size + 1) (.slice B1 gn.length d1) (.slice Av es.length cv) (.int .i64 g.nn) (.int .i64 g.ne)) := fun k hk hl => set4_heap _ _ _ _ _ _ k (by omega)
   exact ⟨_, _, rfl, Gr.mono (S := fun k => w.heap.size + 1 + 1 ≤ k) (Gr.move (w := wa) ⟨(HGa.out.mono fun k hk _ => by have := hk.1; omega).1, ho.out.row.mono fun k hk _ => by omega⟩ hSm) (fun k hk _ => by omega), set4_below hb.out (by omega) _ _ _ _⟩
  obtain ⟨x, hx⟩ := getElem?_of_lt hlt
  obtain ⟨be, oe, hAe, _, hbl, z0, z1, z2⟩ := (H.out.below hb.out).atE hx
  have HSU := Lib.hid (filter_take_succ hx (dropQ n))
  have hfl := filter_take_len g.edges j (dropQ n)
  subst hAe
  clear hx
  have q1 : wa.heap.size < wa.heap.size + 1 := by omega
  have q2 : be < wa.heap.size + 1 := by omega
  have q3 : w1.heap.size < wa.heap.size + 1 := by omega
  have q4 : w1.heap.size < wa.heap.size := by omega
  have KA := Lib.hid (Below.heap1 wa (.cells #[.int .i64 x.id, .int .i64 x.frm, .int .i64 x.to] 75))
  by_cases hf : x.frm = n
  ·
   have HF := Lib.hid (show (g.edges.take (j + 1)).filter (dropQ n) = (g.edges.take j).filter (dropQ n) by rw [HSU.out, if_neg (by simp [dropQ, hf]), List.append_nil])
   rw [hf] at z1
   have KA := Lib.hid (Below.heap1 wa (.cells #[.int .i64 x.id, .int .i64 n, .int .i64 x.to] 75))
   clear hf
   go_wp2
   go_roundw
   case rel => exact ⟨j + 1, v, by omega, by first | (go_num; done) | (go_num; omega), Lib.hid (by rw [HF.out]; exact ho.out.below KA.out), Lib.hid (hbo.out.keep (KA.out.block _ q4)), Lib.hid (hsm.out.trans (by omega) (Same.of_below' KA.out (fun k (hk : k < w1.heap.size) => by omega))), Lib.hid (hb.out.trans (KA.out.mono hwa)), by simp; omega⟩
   case measure => simp [intOf]; omega
  by_cases ht : x.to = n
  ·
   have HF := Lib.hid (show (g.edges.take (j + 1)).filter (dropQ n) = (g.edges.take j).filter (dropQ n) by rw [HSU.out, if_neg (by simp [dropQ, ht]), List.append_nil])
   replace hf : (x.frm != n) = true := by simp [hf]
   rw [ht] at z2
   have KA := Lib.hid (Below.heap1 wa (.cells #[.int .i64 x.id, .int .i64 x.frm, .int .i64 n] 75))
   clear ht
   go_wp2
   go_roundw
   case rel => exact ⟨j + 1, v, by omega, by first | (go_num; done) | (go_num; omega), Lib.hid (by rw [HF.out]; exact ho.out.below KA.out), Lib.hid (hbo.out.keep (KA.out.block _ q4)), Lib.hid (hsm.out.trans (by omega) (Same.of_below' KA.out (fun k (hk : k < w1.heap.size) => by omega))), Lib.hid (hb.out.trans (KA.out.mono hwa)), by simp; omega⟩
   case measure => simp [intOf]; omega
  have HF := Lib.hid (show (g.edges.take (j + 1)).filter (dropQ n) = (g.edges.take j).filter (dropQ n) ++ [x] by rw [HSU.out, if_pos (by simp [dropQ, hf, ht])])
  replace hf : (x.frm != n) = true := by simp [hf]
  replace ht : (x.to != n) = true := by simp [ht]
  obtain ⟨y0, y1, y2, y3, yf⟩ := hbo.out
  have HOA := Lib.hid (ho.out.below KA.out)
  go_wp2_with (at_builtin; refine wpList_own_appendS (ty := tEdge) (w := w) (S := fun k => w1.heap.size + 1 ≤ k) (Sy := fun _ => False) (v := v) (xs := (g.edges.take j).filter (dropQ n)) (x := x) rfl _ _ 29 75 24 _ rfl elemEdges rfl ?hown rfl (by simp) rfl ?hB ?hge ?hSn ?hbytes ?hlen (fun _ h => h.elim) ?_)
  case hown => exact HOA.out
  case hB => exact hb.out.trans (KA.out.mono hwa)
  case hge => exact fun k hk => by have := ho.out.1 k hk; omega
  case hSn => intro k hk; simp at hk; show _ ≤ k; omega
  case hbytes => omega
  case hlen => unfold maxLen; omega
  intro v2 w4 ho2 hb2 hge2 hg2
  have s4 := hg2.size
  simp only [World.size_alloc] at s4
  obtain ⟨A4, L4, c4, hv4⟩ : ∃ A L c, v2 = .slice A L c := by obtain ⟨A, c, h⟩ := ho2.slice; exact ⟨A, _, c, h⟩
  subst hv4
  have NB := Lib.hid (((hbo.out.keep (KA.out.block _ q4)).keep (hg2.block w1.heap.size (by simp; omega) (fun e => by have := ho.out.1 _ e.symm; omega))).set1 (.slice A4 L4 c4))
  have hv2 : ∀ k, (Value.slice A4 L4 c4).ownBlock = some k → w1.heap.size + 1 ≤ k := fun k hk => ho2.1 k hk
  have NO := Lib.hid (ho2.keepFlat (w' := w4.setCell ⟨w1.heap.size, 1, none⟩ (.slice A4 L4 c4)) fun k hk => Below.heap_setCell _ ⟨w1.heap.size, 1, none⟩ _ k (by have := hv2 k hk; simp only; omega))
  have NS := Lib.hid (show Same (fun k => k < w1.heap.size) W2 (w4.setCell ⟨w1.heap.size, 1, none⟩ (.slice A4 L4 c4)) from hsm.out.trans (by omega) (fun k (hk : k < w1.heap.size) hl => (Below.heap_setCell _ ⟨w1.heap.size, 1, none⟩ _ k (by simp only; omega)).trans ((hg2.block k (by simp; omega) (fun e => by have := ho.out.1 _ e.symm; omega)).trans (KA.out.block k hl))))
  have NBe := Lib.hid (hb2.setCell (p := ⟨w1.heap.size, 1, none⟩) (by simp only; omega) (.slice A4 L4 c4))
  have m0 : w4.cell? ⟨w1.heap.size, 1, none⟩ = some v := ((hbo.out.keep (KA.out.block _ q4)).keep (hg2.block w1.heap.size (by simp; omega) (fun e => by have := ho.out.1 _ e.symm; omega))).c1
  have m1 : w4.frozen? ⟨w1.heap.size, 1, none⟩ = false := ((hbo.out.keep (KA.out.block _ q4)).keep (hg2.block w1.heap.size (by simp; omega) (fun e => by have := ho.out.1 _ e.symm; omega))).fz 1
  have q5 : w1.heap.size < w4.heap.size := by omega
  clear ho2 hb2 hge2 hg2 hv2 y0 y1 y2 y3 yf z0 z1 z2
  go_wp2
  go_roundw
  case rel => exact ⟨j + 1, _, by omega, by first | (go_num; done) | (go_num; omega), Lib.hid (by rw [HF.out]; exact NO.out), NB, NS, NBe, by simp; omega⟩
  case measure => simp [intOf]; omega
end Go.Proofs.YtpehmmdbjakkpaaGreat

