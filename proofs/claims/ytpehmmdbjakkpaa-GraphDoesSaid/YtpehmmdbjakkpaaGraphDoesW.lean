/- GraphDoes: what is done with any graph that may be: nodes and edges; it stays as it was. -/
import Derived.Test.YtpehmmdbjakkpaaDoSt
import Derived.Test.YtpehmmdbjakkpaaRefLink
import Derived.Test.YtpehmmdbjakkpaaRefNear
import Derived.Test.YtpehmmdbjakkpaaFuseH
namespace Go.Proofs.Ytpehmmdbjakkpaa
open Go.RowKit Go.Shelf
set_option linter.unusedSimpArgs false
set_option linter.unusedVariables false
theorem MayG.rises {c : CfgD} {g : GraphD} (h : MayG c g) : ∀ x ∈ g.nodes, Rises x.ps x.ps.length := fun x hx => by
  obtain ⟨i, hi⟩ := List.mem_iff_getElem?.1 hx
  exact (h.nodes i x (List.getElem?_eq_some_iff.1 hi).1 hi).2.2
set_option maxRecDepth 100000 in
set_option maxHeartbeats 16000000 in
theorem graphDoes_walk (w : World) (c : CfgD) (g : GraphD) (vn ve : Value) (hg : Gr w (fun _ => True) g vn ve) (a b : Int) : Calls Try.prog 5 #[c.val, .agg #[vn, ve, .int .i64 g.nn, .int .i64 g.ne], .int .i64 a, .int .i64 b] w fun e w' => e = .returned (.bool true) ∧ Below w.heap.size w w' := by
  obtain ⟨⟨A1, c1, rfl⟩, ⟨A2, c2, rfl⟩⟩ := hg.slices
  have hg := hg.bound
  have HB := Lib.hid (hg.mono (S' := fun k => k < w.heap.size) fun k hk _ => hk.2)
  have hW0 : Below w.heap.size w ((w.alloc (.cells #[.int .i64 c.nodes, .int .i64 c.edges, .int .i64 c.props, .int .i64 c.ids, .int .i64 c.eids] 23)).alloc (.cells #[.slice A1 g.nodes.length c1, .slice A2 g.edges.length c2, .int .i64 g.nn, .int .i64 g.ne] 27)) := ((Below.refl w.heap.size w).alloc (Nat.le_refl _) _).alloc (by simp) _
  have KW := Lib.hid hW0
  have H0 := Lib.hid (HB.out.below hW0)
  have BX := Lib.hid (Box4.made (w.alloc (.cells #[.int .i64 c.nodes, .int .i64 c.edges, .int .i64 c.props, .int .i64 c.ids, .int .i64 c.eids] 23)) 27 (.slice A1 g.nodes.length c1) (.slice A2 g.edges.length c2) (.int .i64 g.nn) (.int .i64 g.ne))
  have CF := Lib.hid (show ((w.alloc (.cells #[.int .i64 c.nodes, .int .i64 c.edges, .int .i64 c.props, .int .i64 c.ids, .int .i64 c.eids] 23)).alloc (.cells #[.slice A1 g.nodes.length c1, .slice A2 g.edges.length c2, .int .i64 g.nn, .int .i64 g.ne] 27)).heap[w.heap.size]? = some (.cells c.row5 23 (0, 0)) from (Below.heap_alloc _ _ _ (by simp)).trans (heap_alloc_new w _))
  clear hW0 hg HB
  simp only [World.size_alloc] at BX
  unfold CfgD.val
  go_enter Try.func5, Try.ntmps5
  go_wp2_with fail
  refine (live_calls _).mono ?_
  rintro e w1 ⟨rfl, hb1⟩
  have s1 := hb1.size
  have hc1 := (bcell hb1).1
  have K1 := Lib.hid (KW.out.trans (hb1.mono (by simp; omega)))
  have H1 := Lib.hid (H0.out.below hb1)
  have BX1 := Lib.hid (BX.out.keep (hb1.block _ (by simp)))
  have CF1 := Lib.hid ((hb1.block w.heap.size (by simp; omega)).trans CF.out)
  clear hb1 KW H0 BX CF
  simp only [World.size_alloc] at s1 hc1
  have g1 : w.heap.size < w.heap.size + 1 + 1 := by omega
  have g2 : w.heap.size + 1 < w.heap.size + 1 + 1 := by omega
  go_wp2_with fail
  refine (may_calls _ _ c g _ _ H1.out).mono ?_
  rintro e w2 ⟨b0, rfl, hmay, hb1⟩
  have s2 := hb1.size
  have K2 := Lib.hid (K1.out.trans (hb1.mono K1.out.size))
  have H2 := Lib.hid (H1.out.below hb1)
  have BX2 := Lib.hid (BX1.out.keep (hb1.block _ (by omega)))
  have CF2 := Lib.hid ((hb1.block w.heap.size (by omega)).trans CF1.out)
  clear hb1 hc1 BX1 CF1 H1 K1
  cases b0
  · go_wp2
    go_ret
    exact ⟨rfl, K2.out⟩
  obtain ⟨hf, hm⟩ := hmay rfl
  have HM := Lib.hid hm
  have HF := Lib.hid hf
  have HS := Lib.hid hf.small
  have hf1 := hf.1
  have hf2 := hf.2.1
  have hn6 : g.nodes.length ≤ 1000000 := by omega
  have he6 : g.edges.length ≤ 1000000 := by omega
  have hni : c.ids ≤ 1000000 := by have := hm.head.cfg.2.2.2.1.2; omega
  have hei : c.eids ≤ 1000000 := by have := hm.head.cfg.2.2.2.2.2; omega
  have hnn : 0 ≤ g.nn := by have := hm.head.nn.1; omega
  have hne : 0 ≤ g.ne := by have := hm.head.ne.1; omega
  clear hmay hf hm
  have g3 : w.heap.size + 1 < w2.heap.size := by omega
  obtain ⟨x0, x1, x2, x3, xf⟩ := BX2.out
  go_wp2_with fail
  refine (copy_calls w2 _ g _ _ H2.out HS.out).mono ?_
  rintro e w5 ⟨v9n, v9e, rfl, hg9, hb⟩
  obtain ⟨⟨A9, c9, rfl⟩, ⟨A9e, c9e, rfl⟩⟩ := hg9.slices
  have s5 := hb.size
  have K5 := Lib.hid (K2.out.trans (hb.mono K2.out.size))
  have H5 := Lib.hid (H2.out.below hb)
  have BX5 := Lib.hid (BX2.out.keep (hb.block _ (by omega)))
  have CF5 := Lib.hid ((hb.block w.heap.size (by omega)).trans CF2.out)
  have G9 := Lib.hid (hg9.bound.mono (S' := fun k => k < w5.heap.size) fun k hk _ => hk.2)
  clear hb hg9 BX2 CF2 H2 K2 x0 x1 x2 x3 xf
  have KB := Lib.hid (Below.heap1 w5 (.cells #[.slice A9 g.nodes.length c9, .slice A9e g.edges.length c9e, .int .i64 g.nn, .int .i64 g.ne] 27))
  have H5a := Lib.hid (H5.out.below KB.out)
  have G9a := Lib.hid (G9.out.below KB.out)
  have BX5a := Lib.hid (BX5.out.keep (KB.out.block _ (by omega)))
  have CF5a := Lib.hid ((KB.out.block w.heap.size (by omega)).trans CF5.out)
  have B9a := Lib.hid (Box4.made w5 27 (.slice A9 g.nodes.length c9) (.slice A9e g.edges.length c9e) (.int .i64 g.nn) (.int .i64 g.ne))
  have K5a := Lib.hid (K5.out.trans (KB.out.mono K5.out.size))
  have g4 : w.heap.size < w5.heap.size + 1 := by omega
  have g5 : w.heap.size + 1 < w5.heap.size + 1 := by omega
  obtain ⟨x0, x1, x2, x3, xf⟩ := BX5a.out
  have cfc := CF5a.out
  unfold CfgD.row5 at cfc
  have d0 : (w5.alloc (.cells #[.slice A9 g.nodes.length c9, .slice A9e g.edges.length c9e, .int .i64 g.nn, .int .i64 g.ne] 27)).cell? ⟨w.heap.size, 0, none⟩ = some (.int .i64 c.nodes) := by unfold World.cell?; rw [cfc]; rfl
  have d1 : (w5.alloc (.cells #[.slice A9 g.nodes.length c9, .slice A9e g.edges.length c9e, .int .i64 g.nn, .int .i64 g.ne] 27)).cell? ⟨w.heap.size, 1, none⟩ = some (.int .i64 c.edges) := by unfold World.cell?; rw [cfc]; rfl
  have d2 : (w5.alloc (.cells #[.slice A9 g.nodes.length c9, .slice A9e g.edges.length c9e, .int .i64 g.nn, .int .i64 g.ne] 27)).cell? ⟨w.heap.size, 2, none⟩ = some (.int .i64 c.props) := by unfold World.cell?; rw [cfc]; rfl
  have d3 : (w5.alloc (.cells #[.slice A9 g.nodes.length c9, .slice A9e g.edges.length c9e, .int .i64 g.nn, .int .i64 g.ne] 27)).cell? ⟨w.heap.size, 3, none⟩ = some (.int .i64 c.ids) := by unfold World.cell?; rw [cfc]; rfl
  have d4 : (w5.alloc (.cells #[.slice A9 g.nodes.length c9, .slice A9e g.edges.length c9e, .int .i64 g.nn, .int .i64 g.ne] 27)).cell? ⟨w.heap.size, 4, none⟩ = some (.int .i64 c.eids) := by unfold World.cell?; rw [cfc]; rfl
  clear cfc
  obtain ⟨r1, hr1⟩ : ∃ r, addOf c g = r := ⟨_, rfl⟩
  have HR1 := Lib.hid hr1
  clear hr1
  go_wp2_with fail
  refine (add_calls _ _ c g _ _ H5a.out HS.out hni hnn (by omega)).mono ?_
  rw [HR1.out]
  rintro e w6 ⟨xn, xe, rfl, hgx, hb⟩
  obtain ⟨⟨A3, L3, c3, rfl⟩, ⟨A4, L4, c4, rfl⟩⟩ := hgx.three
  have s6 := hb.size
  simp only [World.size_alloc] at s6
  have K6 := Lib.hid (K5a.out.trans (hb.mono K5a.out.size))
  have H6 := Lib.hid (H5a.out.below hb)
  have G96 := Lib.hid (G9a.out.below hb)
  have BX6 := Lib.hid (BX5a.out.keep (hb.block _ (by simp; omega)))
  have CF6 := Lib.hid ((hb.block w.heap.size (by simp; omega)).trans CF5a.out)
  have B96 := Lib.hid (B9a.out.keep (hb.block _ (by simp)))
  have GX6 := Lib.hid ((hgx.bound).mono (S' := fun k => w5.heap.size + 1 ≤ k ∧ k < w6.heap.size) fun k hk _ => ⟨by have := hk.1; simp at this; omega, hk.2⟩)
  clear hb hgx x0 x1 x2 x3 xf d0 d1 d2 d3 d4 KB CF5a BX5a B9a G9a H5a K5a CF5 BX5 G9 H5 K5
  have KB := Lib.hid (Below.heap1 w6 (.cells #[.slice A3 L3 c3, .slice A4 L4 c4, .int .i64 r1.1.nn, .int .i64 r1.1.ne] 27))
  have H6a := Lib.hid (H6.out.below KB.out)
  have G96a := Lib.hid (G96.out.below KB.out)
  have GX6a := Lib.hid (GX6.out.below KB.out)
  have BX6a := Lib.hid (BX6.out.keep (KB.out.block _ (by omega)))
  have CF6a := Lib.hid ((KB.out.block w.heap.size (by omega)).trans CF6.out)
  have B96a := Lib.hid (B96.out.keep (KB.out.block _ (by omega)))
  have B106a := Lib.hid (Box4.made w6 27 (.slice A3 L3 c3) (.slice A4 L4 c4) (.int .i64 r1.1.nn) (.int .i64 r1.1.ne))
  have K6a := Lib.hid (K6.out.trans (KB.out.mono K6.out.size))
  have g4 : w.heap.size < w6.heap.size + 1 := by omega
  have g5 : w.heap.size + 1 < w6.heap.size + 1 := by omega
  obtain ⟨x0, x1, x2, x3, xf⟩ := BX6a.out
  have cfc := CF6a.out
  unfold CfgD.row5 at cfc
  have d0 : (w6.alloc (.cells #[.slice A3 L3 c3, .slice A4 L4 c4, .int .i64 r1.1.nn, .int .i64 r1.1.ne] 27)).cell? ⟨w.heap.size, 0, none⟩ = some (.int .i64 c.nodes) := by unfold World.cell?; rw [cfc]; rfl
  have d1 : (w6.alloc (.cells #[.slice A3 L3 c3, .slice A4 L4 c4, .int .i64 r1.1.nn, .int .i64 r1.1.ne] 27)).cell? ⟨w.heap.size, 1, none⟩ = some (.int .i64 c.edges) := by unfold World.cell?; rw [cfc]; rfl
  have d2 : (w6.alloc (.cells #[.slice A3 L3 c3, .slice A4 L4 c4, .int .i64 r1.1.nn, .int .i64 r1.1.ne] 27)).cell? ⟨w.heap.size, 2, none⟩ = some (.int .i64 c.props) := by unfold World.cell?; rw [cfc]; rfl
  have d3 : (w6.alloc (.cells #[.slice A3 L3 c3, .slice A4 L4 c4, .int .i64 r1.1.nn, .int .i64 r1.1.ne] 27)).cell? ⟨w.heap.size, 3, none⟩ = some (.int .i64 c.ids) := by unfold World.cell?; rw [cfc]; rfl
  have d4 : (w6.alloc (.cells #[.slice A3 L3 c3, .slice A4 L4 c4, .int .i64 r1.1.nn, .int .i64 r1.1.ne] 27)).cell? ⟨w.heap.size, 4, none⟩ = some (.int .i64 c.eids) := by unfold World.cell?; rw [cfc]; rfl
  clear cfc
  go_wp2_with fail
  refine (refAdd_calls _ _ c g _ _ H6a.out HS.out hni hnn (by omega)).mono ?_
  rw [HR1.out]
  rintro e w7 ⟨yn, ye, rfl, hgy, hb⟩
  obtain ⟨⟨A5, L5, c5, rfl⟩, ⟨A6, L6, c6, rfl⟩⟩ := hgy.three
  have s7 := hb.size
  simp only [World.size_alloc] at s7
  have KB7 := Lib.hid (hb.trans ((Below.heap1 w7 (.cells #[.slice A5 L5 c5, .slice A6 L6 c6, .int .i64 r1.1.nn, .int .i64 r1.1.ne] 27)).mono hb.size))
  have K1w := Lib.hid (Below.heap1 w7 (.cells #[.slice A5 L5 c5, .slice A6 L6 c6, .int .i64 r1.1.nn, .int .i64 r1.1.ne] 27))
  have ST := Lib.hid (show DoSt w c g (.slice A1 g.nodes.length c1) (.slice A2 g.edges.length c2) w5.heap.size w6.heap.size w7.heap.size (w7.alloc (.cells #[.slice A5 L5 c5, .slice A6 L6 c6, .int .i64 r1.1.nn, .int .i64 r1.1.ne] 27)) (.slice A9 g.nodes.length c9) (.slice A9e g.edges.length c9e) r1.1 (.slice A3 L3 c3) (.slice A4 L4 c4) r1.1 (.slice A5 L5 c5) (.slice A6 L6 c6) from
    ⟨K6a.out.trans (KB7.out.mono K6a.out.size), (KB7.out.block w.heap.size (by simp; omega)).trans CF6a.out, BX6a.out.keep (KB7.out.block _ (by simp; omega)), B96a.out.keep (KB7.out.block _ (by simp; omega)), B106a.out.keep (KB7.out.block _ (by simp)), Box4.made w7 27 _ _ _ _, H6a.out.below KB7.out, (G96a.out.below KB7.out).mono (fun k (hk : k < w5.heap.size) _ => ⟨by omega, by omega, by omega⟩), (GX6a.out.below KB7.out).mono (fun k hk _ => ⟨by have := hk.1; omega, by have := hk.2; omega, by have := hk.2; omega⟩), (hgy.bound.below K1w.out).mono (fun k hk _ => by have h1 := hk.1; have h2 := hk.2; simp at h1; exact ⟨by omega, by omega, by omega⟩), by omega, by omega, by omega, by simp⟩)
  have HP0 := Lib.hid (show w5.heap.size < w6.heap.size ∧ w6.heap.size < w7.heap.size ∧ w.heap.size + 1 < w5.heap.size from ⟨by omega, by omega, Nat.lt_of_lt_of_le g3 s5⟩)
  have p1 : w.heap.size + 1 < w5.heap.size := Nat.lt_of_lt_of_le g3 s5
  have p2 : w5.heap.size < w6.heap.size := by omega
  have p3 : w6.heap.size < w7.heap.size := by omega
  clear hb hgy x0 x1 x2 x3 xf d0 d1 d2 d3 d4 KB CF6a BX6a B96a B106a G96a H6a K6a CF6 BX6 G96 H6 K6 GX6 GX6a B96 s5 s6 s7 KB7 K1w g4 g5
  have p4 : w7.heap.size < w7.heap.size + 1 := by omega
  have p5 : w.heap.size + 1 < w7.heap.size + 1 := by omega
  have p6 : w.heap.size < w7.heap.size + 1 := by omega
  have p7 : w5.heap.size < w7.heap.size + 1 := by omega
  have p8 : w6.heap.size < w7.heap.size + 1 := by omega
  obtain ⟨x0, x1, x2, x3, xf⟩ := ST.out.bg
  obtain ⟨y0, y1, y2, y3, yf⟩ := ST.out.b10
  obtain ⟨z0, z1, z2, z3, zf⟩ := ST.out.b13
  obtain ⟨d0, d1, d2, d3, d4⟩ := ST.out.cells
  go_wp2_with fail
  have ne0 : ¬ w6.heap.size = w.heap.size := by omega
  have ne1 : ¬ w6.heap.size = w.heap.size + 1 := by omega
  have ne2 : ¬ w6.heap.size = w5.heap.size := by omega
  have ne3 : ¬ w6.heap.size = w7.heap.size := by omega
  have ne4 : ¬ w7.heap.size = w.heap.size := by omega
  have ne5 : ¬ w7.heap.size = w.heap.size + 1 := by omega
  have ne6 : ¬ w7.heap.size = w5.heap.size := by omega
  have ne7 : ¬ w7.heap.size = w6.heap.size := by omega
  have ne8 : ¬ w.heap.size = w6.heap.size := by omega
  have ne9 : ¬ w.heap.size + 1 = w6.heap.size := by omega
  have ne10 : ¬ w5.heap.size = w6.heap.size := by omega
  have ne11 : ¬ w.heap.size = w7.heap.size := by omega
  have ne12 : ¬ w.heap.size + 1 = w7.heap.size := by omega
  have ne13 : ¬ w5.heap.size = w7.heap.size := by omega
  obtain ⟨R2, hr⟩ : ∃ r, linkOf c g a b = r := ⟨_, rfl⟩
  have HR2 := Lib.hid hr
  clear hr
  obtain ⟨R3, hr⟩ : ∃ r, cutOf g a = r := ⟨_, rfl⟩
  have HR3 := Lib.hid hr
  clear hr
  obtain ⟨R4, hr⟩ : ∃ r, dropOf g a = r := ⟨_, rfl⟩
  have HR4 := Lib.hid hr
  clear hr
  obtain ⟨R5, hr⟩ : ∃ r, fuseOf g a b = r := ⟨_, rfl⟩
  have HR5 := Lib.hid hr
  clear hr
  obtain ⟨R6, hr⟩ : ∃ r, nearOf g a = r := ⟨_, rfl⟩
  have HR6 := Lib.hid hr
  clear hr
  refine (refSame_calls _ _ r1.1 _ _ _ _ ST.out.hx ST.out.hy).mono ?_
  rintro e w9 ⟨rfl, hb⟩
  have ST := Lib.hid (ST.out.below hb)
  clear x0 x1 x2 x3 xf y0 y1 y2 y3 yf z0 z1 z2 z3 zf d0 d1 d2 d3 d4 p4 p5 p6 p7 p8
  clear hb
  have p4 : w7.heap.size < w9.heap.size := ST.out.o4
  have p5 : w.heap.size + 1 < w9.heap.size := by omega
  have p6 : w.heap.size < w9.heap.size := by omega
  have p7 : w5.heap.size < w9.heap.size := by omega
  have p8 : w6.heap.size < w9.heap.size := by omega
  obtain ⟨x0, x1, x2, x3, xf⟩ := ST.out.bg
  obtain ⟨y0, y1, y2, y3, yf⟩ := ST.out.b10
  obtain ⟨z0, z1, z2, z3, zf⟩ := ST.out.b13
  obtain ⟨d0, d1, d2, d3, d4⟩ := ST.out.cells
  go_wp2_with fail
  refine (link_calls _ _ c g _ _ a b ST.out.hg HS.out hei hne (by omega)).mono ?_
  rw [HR2.out]
  rintro e w10 ⟨zn, ze, rfl, hgz, hb⟩
  obtain ⟨⟨A10, L10, c10, rfl⟩, ⟨E10, M10, f10, rfl⟩⟩ := hgz.three
  have HZ := Lib.hid (hgz.off (a := w5.heap.size) (b := w6.heap.size) (d := w7.heap.size) (by first | exact p7 | (simp; omega)) (by first | exact p8 | (simp; omega)) (by first | exact p4 | (simp; omega)))
  have ST := Lib.hid (ST.out.below hb)
  clear x0 x1 x2 x3 xf y0 y1 y2 y3 yf z0 z1 z2 z3 zf d0 d1 d2 d3 d4 p4 p5 p6 p7 p8
  clear hb hgz
  have p4 : w7.heap.size < w10.heap.size := ST.out.o4
  have p5 : w.heap.size + 1 < w10.heap.size := by omega
  have p6 : w.heap.size < w10.heap.size := by omega
  have p7 : w5.heap.size < w10.heap.size := by omega
  have p8 : w6.heap.size < w10.heap.size := by omega
  obtain ⟨x0, x1, x2, x3, xf⟩ := ST.out.bg
  obtain ⟨y0, y1, y2, y3, yf⟩ := ST.out.b10
  obtain ⟨z0, z1, z2, z3, zf⟩ := ST.out.b13
  obtain ⟨d0, d1, d2, d3, d4⟩ := ST.out.cells
  go_wp2_with fail
  have ST := Lib.hid (ST.out.put10 HZ.out)
  unfold set4 at ST
  clear x0 x1 x2 x3 xf y0 y1 y2 y3 yf z0 z1 z2 z3 zf d0 d1 d2 d3 d4 p4 p5 p6 p7 p8
  clear HZ
  generalize hwz : (((w10.setCell ⟨w6.heap.size, 0, none⟩ (.slice A10 L10 c10)).setCell ⟨w6.heap.size, 1, none⟩ (.slice E10 M10 f10)).setCell ⟨w6.heap.size, 2, none⟩ (.int .i64 R2.1.nn)).setCell ⟨w6.heap.size, 3, none⟩ (.int .i64 R2.1.ne) = w11 at ST ⊢
  clear hwz
  have p4 : w7.heap.size < w11.heap.size := ST.out.o4
  have p5 : w.heap.size + 1 < w11.heap.size := by omega
  have p6 : w.heap.size < w11.heap.size := by omega
  have p7 : w5.heap.size < w11.heap.size := by omega
  have p8 : w6.heap.size < w11.heap.size := by omega
  obtain ⟨x0, x1, x2, x3, xf⟩ := ST.out.bg
  obtain ⟨y0, y1, y2, y3, yf⟩ := ST.out.b10
  obtain ⟨z0, z1, z2, z3, zf⟩ := ST.out.b13
  obtain ⟨d0, d1, d2, d3, d4⟩ := ST.out.cells
  refine (refLink_calls _ _ c g _ _ a b ST.out.hg HS.out hei hne (by omega)).mono ?_
  rw [HR2.out]
  rintro e w12 ⟨zn, ze, rfl, hgz, hb⟩
  obtain ⟨⟨A12, L12, c12, rfl⟩, ⟨E12, M12, f12, rfl⟩⟩ := hgz.three
  have HZ := Lib.hid (hgz.off (a := w5.heap.size) (b := w6.heap.size) (d := w7.heap.size) (by first | exact p7 | (simp; omega)) (by first | exact p8 | (simp; omega)) (by first | exact p4 | (simp; omega)))
  have ST := Lib.hid (ST.out.below hb)
  clear x0 x1 x2 x3 xf y0 y1 y2 y3 yf z0 z1 z2 z3 zf d0 d1 d2 d3 d4 p4 p5 p6 p7 p8
  clear hb hgz
  have p4 : w7.heap.size < w12.heap.size := ST.out.o4
  have p5 : w.heap.size + 1 < w12.heap.size := by omega
  have p6 : w.heap.size < w12.heap.size := by omega
  have p7 : w5.heap.size < w12.heap.size := by omega
  have p8 : w6.heap.size < w12.heap.size := by omega
  obtain ⟨x0, x1, x2, x3, xf⟩ := ST.out.bg
  obtain ⟨y0, y1, y2, y3, yf⟩ := ST.out.b10
  obtain ⟨z0, z1, z2, z3, zf⟩ := ST.out.b13
  obtain ⟨d0, d1, d2, d3, d4⟩ := ST.out.cells
  go_wp2_with fail
  have ST := Lib.hid (ST.out.put13 HZ.out)
  unfold set4 at ST
  clear x0 x1 x2 x3 xf y0 y1 y2 y3 yf z0 z1 z2 z3 zf d0 d1 d2 d3 d4 p4 p5 p6 p7 p8
  clear HZ
  generalize hwz : (((w12.setCell ⟨w7.heap.size, 0, none⟩ (.slice A12 L12 c12)).setCell ⟨w7.heap.size, 1, none⟩ (.slice E12 M12 f12)).setCell ⟨w7.heap.size, 2, none⟩ (.int .i64 R2.1.nn)).setCell ⟨w7.heap.size, 3, none⟩ (.int .i64 R2.1.ne) = w13 at ST ⊢
  clear hwz
  have p4 : w7.heap.size < w13.heap.size := ST.out.o4
  have p5 : w.heap.size + 1 < w13.heap.size := by omega
  have p6 : w.heap.size < w13.heap.size := by omega
  have p7 : w5.heap.size < w13.heap.size := by omega
  have p8 : w6.heap.size < w13.heap.size := by omega
  obtain ⟨x0, x1, x2, x3, xf⟩ := ST.out.bg
  obtain ⟨y0, y1, y2, y3, yf⟩ := ST.out.b10
  obtain ⟨z0, z1, z2, z3, zf⟩ := ST.out.b13
  obtain ⟨d0, d1, d2, d3, d4⟩ := ST.out.cells
  refine (refSame_calls _ _ R2.1 _ _ _ _ ST.out.hx ST.out.hy).mono ?_
  rintro e w14 ⟨rfl, hb⟩
  have ST := Lib.hid (ST.out.below hb)
  clear x0 x1 x2 x3 xf y0 y1 y2 y3 yf z0 z1 z2 z3 zf d0 d1 d2 d3 d4 p4 p5 p6 p7 p8
  clear hb
  have p4 : w7.heap.size < w14.heap.size := ST.out.o4
  have p5 : w.heap.size + 1 < w14.heap.size := by omega
  have p6 : w.heap.size < w14.heap.size := by omega
  have p7 : w5.heap.size < w14.heap.size := by omega
  have p8 : w6.heap.size < w14.heap.size := by omega
  obtain ⟨x0, x1, x2, x3, xf⟩ := ST.out.bg
  obtain ⟨y0, y1, y2, y3, yf⟩ := ST.out.b10
  obtain ⟨z0, z1, z2, z3, zf⟩ := ST.out.b13
  obtain ⟨d0, d1, d2, d3, d4⟩ := ST.out.cells
  go_wp2_with fail
  refine (cut_calls _ _ g _ _ a ST.out.hg HS.out).mono ?_
  rw [HR3.out]
  rintro e w15 ⟨zn, ze, rfl, hgz, hb⟩
  obtain ⟨⟨A15, L15, c15, rfl⟩, ⟨E15, M15, f15, rfl⟩⟩ := hgz.three
  have HZ := Lib.hid (hgz.off (a := w5.heap.size) (b := w6.heap.size) (d := w7.heap.size) (by first | exact p7 | (simp; omega)) (by first | exact p8 | (simp; omega)) (by first | exact p4 | (simp; omega)))
  have ST := Lib.hid (ST.out.below hb)
  clear x0 x1 x2 x3 xf y0 y1 y2 y3 yf z0 z1 z2 z3 zf d0 d1 d2 d3 d4 p4 p5 p6 p7 p8
  clear hb hgz
  have p4 : w7.heap.size < w15.heap.size := ST.out.o4
  have p5 : w.heap.size + 1 < w15.heap.size := by omega
  have p6 : w.heap.size < w15.heap.size := by omega
  have p7 : w5.heap.size < w15.heap.size := by omega
  have p8 : w6.heap.size < w15.heap.size := by omega
  obtain ⟨x0, x1, x2, x3, xf⟩ := ST.out.bg
  obtain ⟨y0, y1, y2, y3, yf⟩ := ST.out.b10
  obtain ⟨z0, z1, z2, z3, zf⟩ := ST.out.b13
  obtain ⟨d0, d1, d2, d3, d4⟩ := ST.out.cells
  go_wp2_with fail
  have ST := Lib.hid (ST.out.put10 HZ.out)
  unfold set4 at ST
  clear x0 x1 x2 x3 xf y0 y1 y2 y3 yf z0 z1 z2 z3 zf d0 d1 d2 d3 d4 p4 p5 p6 p7 p8
  clear HZ
  generalize hwz : (((w15.setCell ⟨w6.heap.size, 0, none⟩ (.slice A15 L15 c15)).setCell ⟨w6.heap.size, 1, none⟩ (.slice E15 M15 f15)).setCell ⟨w6.heap.size, 2, none⟩ (.int .i64 R3.1.nn)).setCell ⟨w6.heap.size, 3, none⟩ (.int .i64 R3.1.ne) = w16 at ST ⊢
  clear hwz
  have p4 : w7.heap.size < w16.heap.size := ST.out.o4
  have p5 : w.heap.size + 1 < w16.heap.size := by omega
  have p6 : w.heap.size < w16.heap.size := by omega
  have p7 : w5.heap.size < w16.heap.size := by omega
  have p8 : w6.heap.size < w16.heap.size := by omega
  obtain ⟨x0, x1, x2, x3, xf⟩ := ST.out.bg
  obtain ⟨y0, y1, y2, y3, yf⟩ := ST.out.b10
  obtain ⟨z0, z1, z2, z3, zf⟩ := ST.out.b13
  obtain ⟨d0, d1, d2, d3, d4⟩ := ST.out.cells
  refine (refCut_calls _ _ g _ _ a ST.out.hg HS.out).mono ?_
  rw [HR3.out]
  rintro e w17 ⟨zn, ze, rfl, hgz, hb⟩
  obtain ⟨⟨A17, L17, c17, rfl⟩, ⟨E17, M17, f17, rfl⟩⟩ := hgz.three
  have HZ := Lib.hid (hgz.off (a := w5.heap.size) (b := w6.heap.size) (d := w7.heap.size) (by first | exact p7 | (simp; omega)) (by first | exact p8 | (simp; omega)) (by first | exact p4 | (simp; omega)))
  have ST := Lib.hid (ST.out.below hb)
  clear x0 x1 x2 x3 xf y0 y1 y2 y3 yf z0 z1 z2 z3 zf d0 d1 d2 d3 d4 p4 p5 p6 p7 p8
  clear hb hgz
  have p4 : w7.heap.size < w17.heap.size := ST.out.o4
  have p5 : w.heap.size + 1 < w17.heap.size := by omega
  have p6 : w.heap.size < w17.heap.size := by omega
  have p7 : w5.heap.size < w17.heap.size := by omega
  have p8 : w6.heap.size < w17.heap.size := by omega
  obtain ⟨x0, x1, x2, x3, xf⟩ := ST.out.bg
  obtain ⟨y0, y1, y2, y3, yf⟩ := ST.out.b10
  obtain ⟨z0, z1, z2, z3, zf⟩ := ST.out.b13
  obtain ⟨d0, d1, d2, d3, d4⟩ := ST.out.cells
  go_wp2_with fail
  have ST := Lib.hid (ST.out.put13 HZ.out)
  unfold set4 at ST
  clear x0 x1 x2 x3 xf y0 y1 y2 y3 yf z0 z1 z2 z3 zf d0 d1 d2 d3 d4 p4 p5 p6 p7 p8
  clear HZ
  generalize hwz : (((w17.setCell ⟨w7.heap.size, 0, none⟩ (.slice A17 L17 c17)).setCell ⟨w7.heap.size, 1, none⟩ (.slice E17 M17 f17)).setCell ⟨w7.heap.size, 2, none⟩ (.int .i64 R3.1.nn)).setCell ⟨w7.heap.size, 3, none⟩ (.int .i64 R3.1.ne) = w18 at ST ⊢
  clear hwz
  have p4 : w7.heap.size < w18.heap.size := ST.out.o4
  have p5 : w.heap.size + 1 < w18.heap.size := by omega
  have p6 : w.heap.size < w18.heap.size := by omega
  have p7 : w5.heap.size < w18.heap.size := by omega
  have p8 : w6.heap.size < w18.heap.size := by omega
  obtain ⟨x0, x1, x2, x3, xf⟩ := ST.out.bg
  obtain ⟨y0, y1, y2, y3, yf⟩ := ST.out.b10
  obtain ⟨z0, z1, z2, z3, zf⟩ := ST.out.b13
  obtain ⟨d0, d1, d2, d3, d4⟩ := ST.out.cells
  refine (refSame_calls _ _ R3.1 _ _ _ _ ST.out.hx ST.out.hy).mono ?_
  rintro e w19 ⟨rfl, hb⟩
  have ST := Lib.hid (ST.out.below hb)
  clear x0 x1 x2 x3 xf y0 y1 y2 y3 yf z0 z1 z2 z3 zf d0 d1 d2 d3 d4 p4 p5 p6 p7 p8
  clear hb
  have p4 : w7.heap.size < w19.heap.size := ST.out.o4
  have p5 : w.heap.size + 1 < w19.heap.size := by omega
  have p6 : w.heap.size < w19.heap.size := by omega
  have p7 : w5.heap.size < w19.heap.size := by omega
  have p8 : w6.heap.size < w19.heap.size := by omega
  obtain ⟨x0, x1, x2, x3, xf⟩ := ST.out.bg
  obtain ⟨y0, y1, y2, y3, yf⟩ := ST.out.b10
  obtain ⟨z0, z1, z2, z3, zf⟩ := ST.out.b13
  obtain ⟨d0, d1, d2, d3, d4⟩ := ST.out.cells
  go_wp2_with fail
  refine (drop_calls _ _ g _ _ a ST.out.hg HS.out).mono ?_
  rw [HR4.out]
  rintro e w20 ⟨zn, ze, rfl, hgz, hb⟩
  obtain ⟨⟨A20, L20, c20, rfl⟩, ⟨E20, M20, f20, rfl⟩⟩ := hgz.three
  have HZ := Lib.hid (hgz.off (a := w5.heap.size) (b := w6.heap.size) (d := w7.heap.size) (by first | exact p7 | (simp; omega)) (by first | exact p8 | (simp; omega)) (by first | exact p4 | (simp; omega)))
  have ST := Lib.hid (ST.out.below hb)
  clear x0 x1 x2 x3 xf y0 y1 y2 y3 yf z0 z1 z2 z3 zf d0 d1 d2 d3 d4 p4 p5 p6 p7 p8
  clear hb hgz
  have p4 : w7.heap.size < w20.heap.size := ST.out.o4
  have p5 : w.heap.size + 1 < w20.heap.size := by omega
  have p6 : w.heap.size < w20.heap.size := by omega
  have p7 : w5.heap.size < w20.heap.size := by omega
  have p8 : w6.heap.size < w20.heap.size := by omega
  obtain ⟨x0, x1, x2, x3, xf⟩ := ST.out.bg
  obtain ⟨y0, y1, y2, y3, yf⟩ := ST.out.b10
  obtain ⟨z0, z1, z2, z3, zf⟩ := ST.out.b13
  obtain ⟨d0, d1, d2, d3, d4⟩ := ST.out.cells
  go_wp2_with fail
  have ST := Lib.hid (ST.out.put10 HZ.out)
  unfold set4 at ST
  clear x0 x1 x2 x3 xf y0 y1 y2 y3 yf z0 z1 z2 z3 zf d0 d1 d2 d3 d4 p4 p5 p6 p7 p8
  clear HZ
  generalize hwz : (((w20.setCell ⟨w6.heap.size, 0, none⟩ (.slice A20 L20 c20)).setCell ⟨w6.heap.size, 1, none⟩ (.slice E20 M20 f20)).setCell ⟨w6.heap.size, 2, none⟩ (.int .i64 R4.1.nn)).setCell ⟨w6.heap.size, 3, none⟩ (.int .i64 R4.1.ne) = w21 at ST ⊢
  clear hwz
  have p4 : w7.heap.size < w21.heap.size := ST.out.o4
  have p5 : w.heap.size + 1 < w21.heap.size := by omega
  have p6 : w.heap.size < w21.heap.size := by omega
  have p7 : w5.heap.size < w21.heap.size := by omega
  have p8 : w6.heap.size < w21.heap.size := by omega
  obtain ⟨x0, x1, x2, x3, xf⟩ := ST.out.bg
  obtain ⟨y0, y1, y2, y3, yf⟩ := ST.out.b10
  obtain ⟨z0, z1, z2, z3, zf⟩ := ST.out.b13
  obtain ⟨d0, d1, d2, d3, d4⟩ := ST.out.cells
  refine (refDrop_calls _ _ g _ _ a ST.out.hg HS.out).mono ?_
  rw [HR4.out]
  rintro e w22 ⟨zn, ze, rfl, hgz, hb⟩
  obtain ⟨⟨A22, L22, c22, rfl⟩, ⟨E22, M22, f22, rfl⟩⟩ := hgz.three
  have HZ := Lib.hid (hgz.off (a := w5.heap.size) (b := w6.heap.size) (d := w7.heap.size) (by first | exact p7 | (simp; omega)) (by first | exact p8 | (simp; omega)) (by first | exact p4 | (simp; omega)))
  have ST := Lib.hid (ST.out.below hb)
  clear x0 x1 x2 x3 xf y0 y1 y2 y3 yf z0 z1 z2 z3 zf d0 d1 d2 d3 d4 p4 p5 p6 p7 p8
  clear hb hgz
  have p4 : w7.heap.size < w22.heap.size := ST.out.o4
  have p5 : w.heap.size + 1 < w22.heap.size := by omega
  have p6 : w.heap.size < w22.heap.size := by omega
  have p7 : w5.heap.size < w22.heap.size := by omega
  have p8 : w6.heap.size < w22.heap.size := by omega
  obtain ⟨x0, x1, x2, x3, xf⟩ := ST.out.bg
  obtain ⟨y0, y1, y2, y3, yf⟩ := ST.out.b10
  obtain ⟨z0, z1, z2, z3, zf⟩ := ST.out.b13
  obtain ⟨d0, d1, d2, d3, d4⟩ := ST.out.cells
  go_wp2_with fail
  have ST := Lib.hid (ST.out.put13 HZ.out)
  unfold set4 at ST
  clear x0 x1 x2 x3 xf y0 y1 y2 y3 yf z0 z1 z2 z3 zf d0 d1 d2 d3 d4 p4 p5 p6 p7 p8
  clear HZ
  generalize hwz : (((w22.setCell ⟨w7.heap.size, 0, none⟩ (.slice A22 L22 c22)).setCell ⟨w7.heap.size, 1, none⟩ (.slice E22 M22 f22)).setCell ⟨w7.heap.size, 2, none⟩ (.int .i64 R4.1.nn)).setCell ⟨w7.heap.size, 3, none⟩ (.int .i64 R4.1.ne) = w23 at ST ⊢
  clear hwz
  have p4 : w7.heap.size < w23.heap.size := ST.out.o4
  have p5 : w.heap.size + 1 < w23.heap.size := by omega
  have p6 : w.heap.size < w23.heap.size := by omega
  have p7 : w5.heap.size < w23.heap.size := by omega
  have p8 : w6.heap.size < w23.heap.size := by omega
  obtain ⟨x0, x1, x2, x3, xf⟩ := ST.out.bg
  obtain ⟨y0, y1, y2, y3, yf⟩ := ST.out.b10
  obtain ⟨z0, z1, z2, z3, zf⟩ := ST.out.b13
  obtain ⟨d0, d1, d2, d3, d4⟩ := ST.out.cells
  refine (refSame_calls _ _ R4.1 _ _ _ _ ST.out.hx ST.out.hy).mono ?_
  rintro e w24 ⟨rfl, hb⟩
  have ST := Lib.hid (ST.out.below hb)
  clear x0 x1 x2 x3 xf y0 y1 y2 y3 yf z0 z1 z2 z3 zf d0 d1 d2 d3 d4 p4 p5 p6 p7 p8
  clear hb
  have p4 : w7.heap.size < w24.heap.size := ST.out.o4
  have p5 : w.heap.size + 1 < w24.heap.size := by omega
  have p6 : w.heap.size < w24.heap.size := by omega
  have p7 : w5.heap.size < w24.heap.size := by omega
  have p8 : w6.heap.size < w24.heap.size := by omega
  obtain ⟨x0, x1, x2, x3, xf⟩ := ST.out.bg
  obtain ⟨y0, y1, y2, y3, yf⟩ := ST.out.b10
  obtain ⟨z0, z1, z2, z3, zf⟩ := ST.out.b13
  obtain ⟨d0, d1, d2, d3, d4⟩ := ST.out.cells
  go_wp2_with fail
  refine (fuse_calls _ _ g _ _ a b ST.out.hg HS.out HM.out.rises HF.out.2.2).mono ?_
  rw [HR5.out]
  rintro e w25 ⟨zn, ze, rfl, hgz, hb⟩
  obtain ⟨⟨A25, L25, c25, rfl⟩, ⟨E25, M25, f25, rfl⟩⟩ := hgz.three
  have HZ := Lib.hid (hgz.off (a := w5.heap.size) (b := w6.heap.size) (d := w7.heap.size) (by first | exact p7 | (simp; omega)) (by first | exact p8 | (simp; omega)) (by first | exact p4 | (simp; omega)))
  have ST := Lib.hid (ST.out.below hb)
  clear x0 x1 x2 x3 xf y0 y1 y2 y3 yf z0 z1 z2 z3 zf d0 d1 d2 d3 d4 p4 p5 p6 p7 p8
  clear hb hgz
  have p4 : w7.heap.size < w25.heap.size := ST.out.o4
  have p5 : w.heap.size + 1 < w25.heap.size := by omega
  have p6 : w.heap.size < w25.heap.size := by omega
  have p7 : w5.heap.size < w25.heap.size := by omega
  have p8 : w6.heap.size < w25.heap.size := by omega
  obtain ⟨x0, x1, x2, x3, xf⟩ := ST.out.bg
  obtain ⟨y0, y1, y2, y3, yf⟩ := ST.out.b10
  obtain ⟨z0, z1, z2, z3, zf⟩ := ST.out.b13
  obtain ⟨d0, d1, d2, d3, d4⟩ := ST.out.cells
  go_wp2_with fail
  have ST := Lib.hid (ST.out.put10 HZ.out)
  unfold set4 at ST
  clear x0 x1 x2 x3 xf y0 y1 y2 y3 yf z0 z1 z2 z3 zf d0 d1 d2 d3 d4 p4 p5 p6 p7 p8
  clear HZ
  generalize hwz : (((w25.setCell ⟨w6.heap.size, 0, none⟩ (.slice A25 L25 c25)).setCell ⟨w6.heap.size, 1, none⟩ (.slice E25 M25 f25)).setCell ⟨w6.heap.size, 2, none⟩ (.int .i64 R5.1.nn)).setCell ⟨w6.heap.size, 3, none⟩ (.int .i64 R5.1.ne) = w26 at ST ⊢
  clear hwz
  have p4 : w7.heap.size < w26.heap.size := ST.out.o4
  have p5 : w.heap.size + 1 < w26.heap.size := by omega
  have p6 : w.heap.size < w26.heap.size := by omega
  have p7 : w5.heap.size < w26.heap.size := by omega
  have p8 : w6.heap.size < w26.heap.size := by omega
  obtain ⟨x0, x1, x2, x3, xf⟩ := ST.out.bg
  obtain ⟨y0, y1, y2, y3, yf⟩ := ST.out.b10
  obtain ⟨z0, z1, z2, z3, zf⟩ := ST.out.b13
  obtain ⟨d0, d1, d2, d3, d4⟩ := ST.out.cells
  refine (refFuse_calls _ _ g _ _ a b ST.out.hg HS.out HF.out.2.2).mono ?_
  rw [HR5.out]
  rintro e w27 ⟨zn, ze, rfl, hgz, hb⟩
  obtain ⟨⟨A27, L27, c27, rfl⟩, ⟨E27, M27, f27, rfl⟩⟩ := hgz.three
  have HZ := Lib.hid (hgz.off (a := w5.heap.size) (b := w6.heap.size) (d := w7.heap.size) (by first | exact p7 | (simp; omega)) (by first | exact p8 | (simp; omega)) (by first | exact p4 | (simp; omega)))
  have ST := Lib.hid (ST.out.below hb)
  clear x0 x1 x2 x3 xf y0 y1 y2 y3 yf z0 z1 z2 z3 zf d0 d1 d2 d3 d4 p4 p5 p6 p7 p8
  clear hb hgz
  have p4 : w7.heap.size < w27.heap.size := ST.out.o4
  have p5 : w.heap.size + 1 < w27.heap.size := by omega
  have p6 : w.heap.size < w27.heap.size := by omega
  have p7 : w5.heap.size < w27.heap.size := by omega
  have p8 : w6.heap.size < w27.heap.size := by omega
  obtain ⟨x0, x1, x2, x3, xf⟩ := ST.out.bg
  obtain ⟨y0, y1, y2, y3, yf⟩ := ST.out.b10
  obtain ⟨z0, z1, z2, z3, zf⟩ := ST.out.b13
  obtain ⟨d0, d1, d2, d3, d4⟩ := ST.out.cells
  go_wp2_with fail
  have ST := Lib.hid (ST.out.put13 HZ.out)
  unfold set4 at ST
  clear x0 x1 x2 x3 xf y0 y1 y2 y3 yf z0 z1 z2 z3 zf d0 d1 d2 d3 d4 p4 p5 p6 p7 p8
  clear HZ
  generalize hwz : (((w27.setCell ⟨w7.heap.size, 0, none⟩ (.slice A27 L27 c27)).setCell ⟨w7.heap.size, 1, none⟩ (.slice E27 M27 f27)).setCell ⟨w7.heap.size, 2, none⟩ (.int .i64 R5.1.nn)).setCell ⟨w7.heap.size, 3, none⟩ (.int .i64 R5.1.ne) = w28 at ST ⊢
  clear hwz
  have p4 : w7.heap.size < w28.heap.size := ST.out.o4
  have p5 : w.heap.size + 1 < w28.heap.size := by omega
  have p6 : w.heap.size < w28.heap.size := by omega
  have p7 : w5.heap.size < w28.heap.size := by omega
  have p8 : w6.heap.size < w28.heap.size := by omega
  obtain ⟨x0, x1, x2, x3, xf⟩ := ST.out.bg
  obtain ⟨y0, y1, y2, y3, yf⟩ := ST.out.b10
  obtain ⟨z0, z1, z2, z3, zf⟩ := ST.out.b13
  obtain ⟨d0, d1, d2, d3, d4⟩ := ST.out.cells
  refine (refSame_calls _ _ R5.1 _ _ _ _ ST.out.hx ST.out.hy).mono ?_
  rintro e w29 ⟨rfl, hb⟩
  have ST := Lib.hid (ST.out.below hb)
  clear x0 x1 x2 x3 xf y0 y1 y2 y3 yf z0 z1 z2 z3 zf d0 d1 d2 d3 d4 p4 p5 p6 p7 p8
  clear hb
  have p4 : w7.heap.size < w29.heap.size := ST.out.o4
  have p5 : w.heap.size + 1 < w29.heap.size := by omega
  have p6 : w.heap.size < w29.heap.size := by omega
  have p7 : w5.heap.size < w29.heap.size := by omega
  have p8 : w6.heap.size < w29.heap.size := by omega
  obtain ⟨x0, x1, x2, x3, xf⟩ := ST.out.bg
  obtain ⟨y0, y1, y2, y3, yf⟩ := ST.out.b10
  obtain ⟨z0, z1, z2, z3, zf⟩ := ST.out.b13
  obtain ⟨d0, d1, d2, d3, d4⟩ := ST.out.cells
  go_wp2_with fail
  refine (near_calls _ _ g _ _ a ST.out.hg hn6 he6).mono ?_
  rw [HR6.out]
  rintro e w30 ⟨vo30, vi30, rfl, hro, hri, hb⟩
  obtain ⟨Ao30, co30, rfl⟩ := hro.slice
  obtain ⟨Ai30, ci30, rfl⟩ := hri.slice
  have RO30 := Lib.hid hro
  have RI30 := Lib.hid hri
  have ST := Lib.hid (ST.out.below hb)
  clear x0 x1 x2 x3 xf y0 y1 y2 y3 yf z0 z1 z2 z3 zf d0 d1 d2 d3 d4 p4 p5 p6 p7 p8
  clear hb hro hri
  have p4 : w7.heap.size < w30.heap.size := ST.out.o4
  have p5 : w.heap.size + 1 < w30.heap.size := by omega
  have p6 : w.heap.size < w30.heap.size := by omega
  have p7 : w5.heap.size < w30.heap.size := by omega
  have p8 : w6.heap.size < w30.heap.size := by omega
  obtain ⟨x0, x1, x2, x3, xf⟩ := ST.out.bg
  obtain ⟨y0, y1, y2, y3, yf⟩ := ST.out.b10
  obtain ⟨z0, z1, z2, z3, zf⟩ := ST.out.b13
  obtain ⟨d0, d1, d2, d3, d4⟩ := ST.out.cells
  go_wp2_with fail
  refine (refNear_calls _ _ g _ _ a ST.out.hg hn6 he6).mono ?_
  rw [HR6.out]
  rintro e w31 ⟨vo31, vi31, rfl, hro, hri, hb⟩
  obtain ⟨Ao31, co31, rfl⟩ := hro.slice
  obtain ⟨Ai31, ci31, rfl⟩ := hri.slice
  have RO31 := Lib.hid hro
  have RI31 := Lib.hid hri
  have ST := Lib.hid (ST.out.below hb)
  have RO30 := Lib.hid (RO30.out.below hb)
  have RI30 := Lib.hid (RI30.out.below hb)
  clear x0 x1 x2 x3 xf y0 y1 y2 y3 yf z0 z1 z2 z3 zf d0 d1 d2 d3 d4 p4 p5 p6 p7 p8
  clear hb hro hri
  have p4 : w7.heap.size < w31.heap.size := ST.out.o4
  have p5 : w.heap.size + 1 < w31.heap.size := by omega
  have p6 : w.heap.size < w31.heap.size := by omega
  have p7 : w5.heap.size < w31.heap.size := by omega
  have p8 : w6.heap.size < w31.heap.size := by omega
  obtain ⟨x0, x1, x2, x3, xf⟩ := ST.out.bg
  obtain ⟨y0, y1, y2, y3, yf⟩ := ST.out.b10
  obtain ⟨z0, z1, z2, z3, zf⟩ := ST.out.b13
  obtain ⟨d0, d1, d2, d3, d4⟩ := ST.out.cells
  go_wp2_with fail
  refine (sameEnds_calls _ (fun _ => True) _ _ R6.1 R6.1 (RO30.out.mono fun _ _ _ => trivial) (RO31.out.mono fun _ _ _ => trivial)).mono ?_
  rintro e w50 ⟨rfl, hb⟩
  rw [show decide (R6.1 = R6.1) = true from decide_eq_true rfl]
  have ST := Lib.hid (ST.out.below hb)
  have RI30 := Lib.hid (RI30.out.below hb)
  have RI31 := Lib.hid (RI31.out.below hb)
  clear x0 x1 x2 x3 xf y0 y1 y2 y3 yf z0 z1 z2 z3 zf d0 d1 d2 d3 d4 p4 p5 p6 p7 p8
  clear hb
  have p4 : w7.heap.size < w50.heap.size := ST.out.o4
  have p5 : w.heap.size + 1 < w50.heap.size := by omega
  have p6 : w.heap.size < w50.heap.size := by omega
  have p7 : w5.heap.size < w50.heap.size := by omega
  have p8 : w6.heap.size < w50.heap.size := by omega
  obtain ⟨x0, x1, x2, x3, xf⟩ := ST.out.bg
  obtain ⟨y0, y1, y2, y3, yf⟩ := ST.out.b10
  obtain ⟨z0, z1, z2, z3, zf⟩ := ST.out.b13
  obtain ⟨d0, d1, d2, d3, d4⟩ := ST.out.cells
  go_wp2_with fail
  refine (sameEnds_calls _ (fun _ => True) _ _ R6.2.1 R6.2.1 (RI30.out.mono fun _ _ _ => trivial) (RI31.out.mono fun _ _ _ => trivial)).mono ?_
  rintro e w51 ⟨rfl, hb⟩
  rw [show decide (R6.2.1 = R6.2.1) = true from decide_eq_true rfl]
  have ST := Lib.hid (ST.out.below hb)
  clear x0 x1 x2 x3 xf y0 y1 y2 y3 yf z0 z1 z2 z3 zf d0 d1 d2 d3 d4 p4 p5 p6 p7 p8
  clear hb
  have p4 : w7.heap.size < w51.heap.size := ST.out.o4
  have p5 : w.heap.size + 1 < w51.heap.size := by omega
  have p6 : w.heap.size < w51.heap.size := by omega
  have p7 : w5.heap.size < w51.heap.size := by omega
  have p8 : w6.heap.size < w51.heap.size := by omega
  obtain ⟨x0, x1, x2, x3, xf⟩ := ST.out.bg
  obtain ⟨y0, y1, y2, y3, yf⟩ := ST.out.b10
  obtain ⟨z0, z1, z2, z3, zf⟩ := ST.out.b13
  obtain ⟨d0, d1, d2, d3, d4⟩ := ST.out.cells
  obtain ⟨b0, b1, b2, b3, bf⟩ := ST.out.b9
  go_wp2_with fail
  refine (refSame_calls _ (fun _ => True) g _ _ _ _ (ST.out.hg.mono fun _ _ _ => trivial) (ST.out.h9.mono fun _ _ _ => trivial)).mono ?_
  rintro e w52 ⟨rfl, hb⟩
  have ST := Lib.hid (ST.out.below hb)
  clear x0 x1 x2 x3 xf y0 y1 y2 y3 yf z0 z1 z2 z3 zf d0 d1 d2 d3 d4 p4 p5 p6 p7 p8
  clear hb b0 b1 b2 b3 bf
  go_wp2
  go_ret
  exact ⟨rfl, ST.out.K⟩
end Go.Proofs.Ytpehmmdbjakkpaa
