/- Which record an operation takes: apply.Takes, tendrilref11.Takes. -/
import Derived.Test.YtpehmmdbjakkpaaGreatSameRes
import Derived.Test.YtpehmmdbjakkpaaGreatDelM
namespace Go.Proofs.YtpehmmdbjakkpaaGreat
open Go.RowKit Go.Shelf
set_option linter.unusedSimpArgs false
set_option linter.unusedVariables false
/-- Three boxes: the configuration, the graph, the operation. -/
structure CGO (w : World) (c : CfgD) (g : GraphD) (vn ve : Value) (o : OpD) (W : World) : Prop where
 K : Below w.heap.size w W
 hl : w.heap.size + 3 ≤ W.heap.size
 cf : Box5 W w.heap.size (.int .i64 c.nodes) (.int .i64 c.edges) (.int .i64 c.props) (.int .i64 c.ids) (.int .i64 c.eids)
 bg : Box4 W (w.heap.size + 1) vn ve (.int .i64 g.nn) (.int .i64 g.ne)
 op : Box5 W (w.heap.size + 1 + 1) (.int .i64 o.k) (.int .i64 o.a) (.int .i64 o.b) (.int .i64 o.p) (.int .i64 o.v)
 hg : Gr W (fun k => k < w.heap.size) g vn ve
theorem CGO.below {w : World} {c : CfgD} {g : GraphD} {vn ve : Value} {o : OpD} {W W' : World} (h : CGO w c g vn ve o W) (hb : Below W.heap.size W W') : CGO w c g vn ve o W' := by
 have h1 := h.hl
 exact ⟨h.K.trans (hb.mono h.K.size), Nat.le_trans h1 hb.size, h.cf.keep (hb.block _ (by omega)), h.bg.keep (hb.block _ (by omega)), h.op.keep (hb.block _ (by omega)), h.hg.below hb⟩
theorem cgo_made (w : World) (S : Nat → Prop) (c : CfgD) (g : GraphD) (vn ve : Value) (o : OpD) (hg : Gr w S g vn ve) (W : World) (hw : W = ((w.alloc (.cells #[.int .i64 c.nodes, .int .i64 c.edges, .int .i64 c.props, .int .i64 c.ids, .int .i64 c.eids] 23)).alloc (.cells #[vn, ve, .int .i64 g.nn, .int .i64 g.ne] 31)).alloc (.cells #[.int .i64 o.k, .int .i64 o.a, .int .i64 o.b, .int .i64 o.p, .int .i64 o.v] 46)) : CGO w c g vn ve o W ∧ W.heap.size = w.heap.size + 3 := by
 have hb : Below w.heap.size w W := by rw [hw]; exact (by repeat (first | (with_reducible exact Below.refl _ _) | (with_reducible exact Below.refl _ _) | (with_reducible refine Below.drew ?_) | (with_reducible refine Below.alloc ?_ (by simp; try omega) _) | (with_reducible refine Below.setCell ?_ (by simp; try omega) _)))
 have h1 := heap_alloc_new w (.cells #[.int .i64 c.nodes, .int .i64 c.edges, .int .i64 c.props, .int .i64 c.ids, .int .i64 c.eids] 23)
 have h2 := heap_alloc_new (w.alloc (.cells #[.int .i64 c.nodes, .int .i64 c.edges, .int .i64 c.props, .int .i64 c.ids, .int .i64 c.eids] 23)) (.cells #[vn, ve, .int .i64 g.nn, .int .i64 g.ne] 31)
 have h3 := heap_alloc_new ((w.alloc (.cells #[.int .i64 c.nodes, .int .i64 c.edges, .int .i64 c.props, .int .i64 c.ids, .int .i64 c.eids] 23)).alloc (.cells #[vn, ve, .int .i64 g.nn, .int .i64 g.ne] 31)) (.cells #[.int .i64 o.k, .int .i64 o.a, .int .i64 o.b, .int .i64 o.p, .int .i64 o.v] 46)
 simp only [World.size_alloc] at h2 h3
 have hs : W.heap.size = w.heap.size + 3 := by rw [hw]; simp
 refine ⟨⟨hb, by omega, Box5.of (n := 23) ?_, Box4.of (n := 31) ?_, Box5.of (n := 46) ?_, (hg.bound.mono (S' := fun k => k < w.heap.size) fun k hk _ => hk.2).below hb⟩, hs⟩
 ·
  rw [hw]; exact (Below.heap_alloc _ _ _ (by simp; omega)).trans ((Below.heap_alloc _ _ _ (by simp)).trans h1)
 ·
  rw [hw]; exact (Below.heap_alloc _ _ _ (by simp)).trans h2
 ·
  rw [hw]; exact h3
theorem do_slices {w : World} {r : GraphD × ResD} {e : Ending} {w' : World} (h : DoPost w r e w') : ∃ A L c B M d a1 d1 a2 d2 a3 d3, e = .returned (.tuple #[.agg #[.slice A L c, .slice B M d, .int .i64 r.1.nn, .int .i64 r.1.ne], .agg #[.int .i64 r.2.st, .int .i64 r.2.id, .slice a1 r.2.ps.length d1, .slice a2 r.2.os.length d2, .slice a3 r.2.is.length d3]]) ∧ Gr w' (fun k => w.heap.size ≤ k) r.1 (.slice A L c) (.slice B M d) ∧ Res w' (fun k => w.heap.size ≤ k) r.2 (.agg #[.int .i64 r.2.st, .int .i64 r.2.id, .slice a1 r.2.ps.length d1, .slice a2 r.2.os.length d2, .slice a3 r.2.is.length d3]) ∧ Below w.heap.size w w' := by
 obtain ⟨vn, ve, v, rfl, hg, hr, hb⟩ := h
 obtain ⟨⟨A, L, c, rfl⟩, B, M, d, rfl⟩ := hg.sl3
 obtain ⟨a1, d1, a2, d2, a3, d3, rfl, _⟩ := hr.slices
 exact ⟨A, L, c, B, M, d, a1, d1, a2, d2, a3, d3, rfl, hg, hr, hb⟩
set_option maxRecDepth 100000 in
set_option maxHeartbeats 8000000 in
theorem takes_calls (w : World) (S : Nat → Prop) (c : CfgD) (g : GraphD) (vn ve : Value) (o : OpD) (h : Gr w S g vn ve) (hs : Rdy c g) : Calls Tryz.prog 62 #[c.val, .agg #[vn, ve, .int .i64 g.nn, .int .i64 g.ne], o.val] w fun e w' => e = .returned (.int .i64 (takesOf c g o)) ∧ Below w.heap.size w w' := by
 obtain ⟨⟨A1, c1, rfl⟩, ⟨A2, c2, rfl⟩⟩ := h.slices
 obtain ⟨W0, hW⟩ : ∃ W0, W0 = ((w.alloc (.cells #[.int .i64 c.nodes, .int .i64 c.edges, .int .i64 c.props, .int .i64 c.ids, .int .i64 c.eids] 23)).alloc (.cells #[.slice A1 g.nodes.length c1, .slice A2 g.edges.length c2, .int .i64 g.nn, .int .i64 g.ne] 31)).alloc (.cells #[.int .i64 o.k, .int .i64 o.a, .int .i64 o.b, .int .i64 o.p, .int .i64 o.v] 46) := ⟨_, rfl⟩
 obtain ⟨hc0, s0⟩ := cgo_made w S c g _ _ o h W0 hW
 have C0 := Lib.hid hc0
 have HS := Lib.hid hs
 clear h hs hc0
 obtain ⟨k, a, b, p, v⟩ := o
 unfold OpD.val CfgD.val
 simp only at hW
 go_enter Tryz.func62, Tryz.ntmps62
 go_wp2_with fail
 rw [← hW]
 clear hW
 refine (do_calls W0 _ c g _ _ ⟨k, a, b, p, v⟩ C0.out.hg HS.out).mono ?_
 have HT := Lib.hid (show takesOf c g ⟨k, a, b, p, v⟩ = if (doOf c g ⟨k, a, b, p, v⟩).2.st = 0 then (if k = 1 then 1 else if k = 2 then 2 else if k = 4 then (if (delOf g a p).2 = 0 then 0 else 3) else 0) else 0 from rfl)
 revert HT
 generalize doOf c g ⟨k, a, b, p, v⟩ = d
 intro HT e w1 hpost
 obtain ⟨A3, L3, c3, A4, L4, c4, a1, d1, a2, d2, a3, d3, rfl, _, _, hb⟩ := do_slices hpost
 obtain ⟨z, st, id, ps, os, is⟩ := d
 simp only at HT ⊢
 have C1 := Lib.hid (C0.out.below hb)
 have s1 := C1.out.hl
 have K1 := Lib.hid (((C1.out.K.alloc (by omega) (.cells #[.slice A3 L3 c3, .slice A4 L4 c4, .int .i64 z.nn, .int .i64 z.ne] 31)).alloc (by simp; omega) (.cells #[.int .i64 st, .int .i64 id, .slice a1 ps.length d1, .slice a2 os.length d2, .slice a3 is.length d3] 50)))
 clear hb C0 hpost s0
 have g1 : w.heap.size + 1 < w1.heap.size := by omega
 have g2 : w.heap.size + 1 + 1 < w1.heap.size := by omega
 have g3 : w.heap.size < w1.heap.size := by omega
 obtain ⟨o0, o1, o2, o3, o4, of⟩ := C1.out.op
 by_cases h0 : st = 0
 case neg =>
  have HF := Lib.hid (HT.out.trans (if_neg h0))
  have hd : (st != 0) = true := by simp [h0]
  clear h0 HT
  go_wp2
  go_ret
  exact ⟨by rw [HF.out]; rfl, K1.out⟩
 subst h0
 replace HT := Lib.hid (HT.out.trans (if_pos rfl))
 by_cases h1 : k = 1
 case pos =>
  subst h1
  go_wp2
  go_ret
  exact ⟨by rw [HT.out]; rfl, K1.out⟩
 by_cases h2 : k = 2
 case pos =>
  subst h2
  go_wp2
  go_ret
  exact ⟨by rw [HT.out]; rfl, K1.out⟩
 by_cases h4 : k = 4
 case neg =>
  have HF := Lib.hid (HT.out.trans (show _ = (0 : Int) by rw [if_neg h1, if_neg h2, if_neg h4]))
  have e1 : (k == 1) = false := by simpa using h1
  have e2 : (k == 2) = false := by simpa using h2
  have e4 : (k == 4) = false := by simpa using h4
  clear h1 h2 h4 HT
  go_wp2
  go_ret
  exact ⟨by rw [HF.out]; rfl, K1.out⟩
 subst h4
 clear h1 h2
 obtain ⟨x0, x1, x2, x3, xf⟩ := C1.out.bg
 go_wp2_with fail
 generalize hWa : (w1.alloc (.cells #[.slice A3 L3 c3, .slice A4 L4 c4, .int .i64 z.nn, .int .i64 z.ne] 31)).alloc (.cells #[.int .i64 0, .int .i64 id, .slice a1 ps.length d1, .slice a2 os.length d2, .slice a3 is.length d3] 50) = Wa at K1 ⊢
 have B1 : Below w1.heap.size w1 Wa := by rw [← hWa]; exact (by repeat (first | (with_reducible exact Below.refl _ _) | (with_reducible exact Below.refl _ _) | (with_reducible refine Below.drew ?_) | (with_reducible refine Below.alloc ?_ (by simp; try omega) _) | (with_reducible refine Below.setCell ?_ (by simp; try omega) _)))
 have C2 := Lib.hid (C1.out.below B1)
 clear B1 hWa
 refine (del_calls Wa _ g _ _ a p C2.out.hg HS.out.small HS.out.hr HS.out.hp).mono ?_
 generalize delOf g a p = q at HT ⊢
 rintro e w2 ⟨zn, ze, rfl, hgz, hb⟩
 obtain ⟨⟨A5, L5, c5, rfl⟩, A6, L6, c6, rfl⟩ := hgz.sl3
 have K2 := Lib.hid (K1.out.trans (hb.mono K1.out.size))
 have s2 := K2.out.size
 obtain ⟨y, er⟩ := q
 simp only at HT ⊢
 clear hb hgz K1 C1 C2 g1 g2 g3 o0 o1 o2 o3 o4 of x0 x1 x2 x3 xf
 have K3 := Lib.hid (K2.out.alloc (by omega) (.cells #[.slice A5 L5 c5, .slice A6 L6 c6, .int .i64 y.nn, .int .i64 y.ne] 31))
 by_cases he : er = 0
 ·
  subst he
  have HF := Lib.hid (HT.out.trans (show _ = (0 : Int) from rfl))
  clear HT
  go_wp2
  go_ret
  exact ⟨by rw [HF.out]; rfl, K3.out⟩
 ·
  have HF := Lib.hid (HT.out.trans (show _ = (3 : Int) by simp [he]))
  have hd : (er != 0) = true := by simp [he]
  clear HT he
  go_wp2
  go_ret
  exact ⟨by rw [HF.out]; rfl, K3.out⟩
set_option maxRecDepth 100000 in
set_option maxHeartbeats 8000000 in
theorem refTakes_calls (w : World) (S : Nat → Prop) (c : CfgD) (g : GraphD) (vn ve : Value) (o : OpD) (h : Gr w S g vn ve) (hs : Rdy c g) : Calls Tryz.prog 76 #[c.val, .agg #[vn, ve, .int .i64 g.nn, .int .i64 g.ne], o.val] w fun e w' => e = .returned (.int .i64 (takesOf c g o)) ∧ Below w.heap.size w w' := by
 obtain ⟨⟨A1, c1, rfl⟩, ⟨A2, c2, rfl⟩⟩ := h.slices
 obtain ⟨W0, hW⟩ : ∃ W0, W0 = ((w.alloc (.cells #[.int .i64 c.nodes, .int .i64 c.edges, .int .i64 c.props, .int .i64 c.ids, .int .i64 c.eids] 23)).alloc (.cells #[.slice A1 g.nodes.length c1, .slice A2 g.edges.length c2, .int .i64 g.nn, .int .i64 g.ne] 31)).alloc (.cells #[.int .i64 o.k, .int .i64 o.a, .int .i64 o.b, .int .i64 o.p, .int .i64 o.v] 46) := ⟨_, rfl⟩
 obtain ⟨hc0, s0⟩ := cgo_made w S c g _ _ o h W0 hW
 have C0 := Lib.hid hc0
 have HS := Lib.hid hs
 clear h hs hc0
 obtain ⟨k, a, b, p, v⟩ := o
 unfold OpD.val CfgD.val
 simp only at hW
 go_enter Tryz.func76, Tryz.ntmps76
 go_wp2_with fail
 rw [← hW]
 clear hW
 refine (refDo_calls W0 _ c g _ _ ⟨k, a, b, p, v⟩ C0.out.hg HS.out).mono ?_
 have HT := Lib.hid (show takesOf c g ⟨k, a, b, p, v⟩ = if (doOf c g ⟨k, a, b, p, v⟩).2.st = 0 then (if k = 1 then 1 else if k = 2 then 2 else if k = 4 then (if (delOf g a p).2 = 0 then 0 else 3) else 0) else 0 from rfl)
 revert HT
 generalize doOf c g ⟨k, a, b, p, v⟩ = d
 intro HT e w1 hpost
 obtain ⟨A3, L3, c3, A4, L4, c4, a1, d1, a2, d2, a3, d3, rfl, _, _, hb⟩ := do_slices hpost
 obtain ⟨z, st, id, ps, os, is⟩ := d
 simp only at HT ⊢
 have C1 := Lib.hid (C0.out.below hb)
 have s1 := C1.out.hl
 have K1 := Lib.hid (((C1.out.K.alloc (by omega) (.cells #[.slice A3 L3 c3, .slice A4 L4 c4, .int .i64 z.nn, .int .i64 z.ne] 31)).alloc (by simp; omega) (.cells #[.int .i64 st, .int .i64 id, .slice a1 ps.length d1, .slice a2 os.length d2, .slice a3 is.length d3] 50)))
 clear hb C0 hpost s0
 have g1 : w.heap.size + 1 < w1.heap.size := by omega
 have g2 : w.heap.size + 1 + 1 < w1.heap.size := by omega
 have g3 : w.heap.size < w1.heap.size := by omega
 obtain ⟨o0, o1, o2, o3, o4, of⟩ := C1.out.op
 by_cases h0 : st = 0
 case neg =>
  have HF := Lib.hid (HT.out.trans (if_neg h0))
  have hd : (st != 0) = true := by simp [h0]
  clear h0 HT
  go_wp2
  go_ret
  exact ⟨by rw [HF.out]; rfl, K1.out⟩
 subst h0
 replace HT := Lib.hid (HT.out.trans (if_pos rfl))
 by_cases h1 : k = 1
 case pos =>
  subst h1
  go_wp2
  go_ret
  exact ⟨by rw [HT.out]; rfl, K1.out⟩
 by_cases h2 : k = 2
 case pos =>
  subst h2
  go_wp2
  go_ret
  exact ⟨by rw [HT.out]; rfl, K1.out⟩
 by_cases h4 : k = 4
 case neg =>
  have HF := Lib.hid (HT.out.trans (show _ = (0 : Int) by rw [if_neg h1, if_neg h2, if_neg h4]))
  have e1 : (k == 1) = false := by simpa using h1
  have e2 : (k == 2) = false := by simpa using h2
  have e4 : (k == 4) = false := by simpa using h4
  clear h1 h2 h4 HT
  go_wp2
  go_ret
  exact ⟨by rw [HF.out]; rfl, K1.out⟩
 subst h4
 clear h1 h2
 obtain ⟨x0, x1, x2, x3, xf⟩ := C1.out.bg
 go_wp2_with fail
 generalize hWa : (w1.alloc (.cells #[.slice A3 L3 c3, .slice A4 L4 c4, .int .i64 z.nn, .int .i64 z.ne] 31)).alloc (.cells #[.int .i64 0, .int .i64 id, .slice a1 ps.length d1, .slice a2 os.length d2, .slice a3 is.length d3] 50) = Wa at K1 ⊢
 have B1 : Below w1.heap.size w1 Wa := by rw [← hWa]; exact (by repeat (first | (with_reducible exact Below.refl _ _) | (with_reducible exact Below.refl _ _) | (with_reducible refine Below.drew ?_) | (with_reducible refine Below.alloc ?_ (by simp; try omega) _) | (with_reducible refine Below.setCell ?_ (by simp; try omega) _)))
 have C2 := Lib.hid (C1.out.below B1)
 clear B1 hWa
 have HD := Lib.hid (show (delOf g a p).2 = 0 ↔ Has g a p by
  rw [has_iff]
  unfold delOf
  split <;> simp_all)
 refine (has_calls Wa _ g _ _ a p C2.out.hg HS.out.small).mono ?_
 rintro e w2 ⟨t, rfl, ht, hb⟩
 have HB := Lib.hid (ht.trans HD.out.symm)
 have K2 := Lib.hid (K1.out.trans (hb.mono K1.out.size))
 clear hb ht HD K1 C1 C2 g1 g2 g3 o0 o1 o2 o3 o4 of x0 x1 x2 x3 xf
 generalize delOf g a p = q at HT HB
 cases t
 ·
  have HF := Lib.hid (HT.out.trans (show _ = (3 : Int) by simp [show ¬ q.2 = 0 from fun e => by have := HB.out.2 e; cases this]))
  clear HT HB
  go_wp2
  go_ret
  exact ⟨by rw [HF.out]; rfl, K2.out⟩
 ·
  have HF := Lib.hid (HT.out.trans (show _ = (0 : Int) by simp [HB.out.1 rfl]))
  clear HT HB
  go_wp2
  go_ret
  exact ⟨by rw [HF.out]; rfl, K2.out⟩

end Go.Proofs.YtpehmmdbjakkpaaGreat
