/- GraphProps: what is done with the properties of any graph that may be; it stays as it was. -/
import Derived.Test.YtpehmmdbjakkpaaRefDel
import Derived.Test.YtpehmmdbjakkpaaRefSet
import Derived.Test.YtpehmmdbjakkpaaDelG
import Derived.Test.YtpehmmdbjakkpaaGraphEdgesW
namespace Go.Proofs.Ytpehmmdbjakkpaa
open Go.RowKit Go.Shelf
set_option linter.unusedSimpArgs false
set_option linter.unusedVariables false
/-- A graph in a box, its rows in blocks ahead of it. -/
structure AtB (W : World) (o : Nat) (z : GraphD) (zn ze : Value) : Prop where
  box : Box4 W o zn ze (.int .i64 z.nn) (.int .i64 z.ne)
  gr : Gr W (fun k => k < o) z zn ze
  lt : o < W.heap.size
theorem AtB.move {W W' : World} {o : Nat} {z : GraphD} {zn ze : Value} (h : AtB W o z zn ze) (hs : Same (fun k => k ≤ o) W W') (hl : W.heap.size ≤ W'.heap.size) : AtB W' o z zn ze :=
  ⟨h.box.keep (hs o (Nat.le_refl _) h.lt), h.gr.move (hs.mono fun k hk => Nat.le_of_lt hk), Nat.lt_of_lt_of_le h.lt hl⟩
theorem AtB.below {W W' : World} {o : Nat} {z : GraphD} {zn ze : Value} (h : AtB W o z zn ze) (hb : Below W.heap.size W W') : AtB W' o z zn ze := h.move (Same.of_below hb |>.mono fun _ _ => trivial) hb.size
theorem AtB.made {W : World} {S : Nat → Prop} {z : GraphD} {zn ze : Value} (h : Gr W S z zn ze) : AtB (W.alloc (.cells #[zn, ze, .int .i64 z.nn, .int .i64 z.ne] 27)) W.heap.size z zn ze :=
  ⟨Box4.made W _ _ _ _ _, (h.bound.below (Below.heap1 W _)).mono fun k hk _ => hk.2, by simp⟩
theorem Gr.three' {W : World} {S : Nat → Prop} {z : GraphD} {zn ze : Value} (h : Gr W S z zn ze) : (∃ A L c, zn = .slice A L c) ∧ ∃ A L c, ze = .slice A L c := by
  obtain ⟨⟨A, c, h1⟩, ⟨B, d, h2⟩⟩ := h.slices
  exact ⟨⟨A, _, c, h1⟩, ⟨B, _, d, h2⟩⟩
theorem MayG.rises {c : CfgD} {g : GraphD} (h : MayG c g) : ∀ x ∈ g.nodes, Rises x.ps x.ps.length := fun x hx => by
  obtain ⟨i, hi⟩ := List.mem_iff_getElem?.1 hx
  exact (h.nodes i x (List.getElem?_eq_some_iff.1 hi).1 hi).2.2
set_option maxRecDepth 100000 in
set_option maxHeartbeats 16000000 in
theorem graphProps_walk (w : World) (c : CfgD) (g : GraphD) (vn ve : Value) (hg : Gr w (fun _ => True) g vn ve) (n k v : Int) : Calls Try.prog 6 #[c.val, .agg #[vn, ve, .int .i64 g.nn, .int .i64 g.ne], .int .i64 n, .int .i64 k, .int .i64 v] w fun e w' => e = .returned (.bool true) ∧ Below w.heap.size w w' := by
  obtain ⟨⟨A1, c1, rfl⟩, ⟨A2, c2, rfl⟩⟩ := hg.slices
  have hW0 : Below w.heap.size w ((w.alloc (.cells #[.int .i64 c.nodes, .int .i64 c.edges, .int .i64 c.props, .int .i64 c.ids, .int .i64 c.eids] 23)).alloc (.cells #[.slice A1 g.nodes.length c1, .slice A2 g.edges.length c2, .int .i64 g.nn, .int .i64 g.ne] 27)) := ((Below.refl w.heap.size w).alloc (Nat.le_refl _) _).alloc (by simp) _
  have KW := Lib.hid hW0
  have BG := Lib.hid (show AtB ((w.alloc (.cells #[.int .i64 c.nodes, .int .i64 c.edges, .int .i64 c.props, .int .i64 c.ids, .int .i64 c.eids] 23)).alloc (.cells #[.slice A1 g.nodes.length c1, .slice A2 g.edges.length c2, .int .i64 g.nn, .int .i64 g.ne] 27)) (w.heap.size + 1) g (.slice A1 g.nodes.length c1) (.slice A2 g.edges.length c2) by
    have h := AtB.made (W := w.alloc (.cells #[.int .i64 c.nodes, .int .i64 c.edges, .int .i64 c.props, .int .i64 c.ids, .int .i64 c.eids] 23)) (hg.below (Below.heap1 w _))
    rw [World.size_alloc] at h
    exact h)
  clear hW0 hg
  unfold CfgD.val
  go_enter Try.func6, Try.ntmps6
  go_wp2_with fail
  refine (live_calls _).mono ?_
  rintro e w1 ⟨rfl, hb1⟩
  have s1 := hb1.size
  have hc1 := (bcell hb1).1
  have K1 := Lib.hid (KW.out.trans (hb1.mono (by simp; omega)))
  have BG1 := Lib.hid (BG.out.below hb1)
  clear hb1 KW BG
  simp only [World.size_alloc] at s1 hc1
  have g1 : w.heap.size < w.heap.size + 1 + 1 := by omega
  have g2 : w.heap.size + 1 < w.heap.size + 1 + 1 := by omega
  go_wp2_with fail
  refine (may_calls _ _ c g _ _ BG1.out.gr).mono ?_
  rintro e w2 ⟨b0, rfl, hmay, hb1⟩
  have s2 := hb1.size
  have K2 := Lib.hid (K1.out.trans (hb1.mono K1.out.size))
  have BG2 := Lib.hid (BG1.out.below hb1)
  clear hb1 hc1 BG1 K1
  cases b0
  · go_wp2
    go_ret
    exact ⟨rfl, K2.out⟩
  obtain ⟨hf, hm⟩ := hmay rfl
  have HM := Lib.hid hm
  have HF := Lib.hid hf
  have HS := Lib.hid hf.small
  clear hmay hf hm
  have p0 : w.heap.size + 1 < w2.heap.size := BG2.out.lt
  obtain ⟨x0, x1, x2, x3, xf⟩ := BG2.out.box
  obtain ⟨R1, hr⟩ : ∃ r, setOf g n k v = r := ⟨_, rfl⟩
  have HR1 := Lib.hid hr
  clear hr
  obtain ⟨R2, hr⟩ : ∃ r, delOf g n k = r := ⟨_, rfl⟩
  have HR2 := Lib.hid hr
  clear hr
  obtain ⟨R3, hr⟩ : ∃ r, getOf g n = r := ⟨_, rfl⟩
  have HR3 := Lib.hid hr
  clear hr
  go_wp2_with fail
  refine (copy_calls _ _ g _ _ BG2.out.gr HS.out).mono ?_
  rintro e w3 ⟨zn, ze, rfl, hgz, hb⟩
  obtain ⟨⟨A3, L3, c3, rfl⟩, ⟨E3, M3, f3, rfl⟩⟩ := hgz.three'
  have KB := Lib.hid (hb.trans ((Below.heap1 w3 (.cells #[.slice A3 L3 c3, .slice E3 M3 f3, .int .i64 g.nn, .int .i64 g.ne] 27)).mono hb.size))
  have BW := Lib.hid (AtB.made hgz)
  have s3 := hb.size
  try simp only [World.size_alloc] at s3
  have BG2x := Lib.hid (BG2.out.below KB.out)
  have K2x := Lib.hid (K2.out.trans (KB.out.mono K2.out.size))
  clear hb hgz KB x0 x1 x2 x3 xf K2 BG2
  have p3 : w.heap.size + 1 < w3.heap.size + 1 := by omega
  obtain ⟨x0, x1, x2, x3, xf⟩ := BG2x.out.box
  go_wp2_with fail
  refine (set_calls _ _ g _ _ n k v BG2x.out.gr HS.out HM.out.rises HF.out.2.2).mono ?_
  rw [HR1.out]
  rintro e w4 ⟨zn, ze, rfl, hgz, hb⟩
  obtain ⟨⟨A4, L4, c4, rfl⟩, ⟨E4, M4, f4, rfl⟩⟩ := hgz.three'
  have KB := Lib.hid (hb.trans ((Below.heap1 w4 (.cells #[.slice A4 L4 c4, .slice E4 M4 f4, .int .i64 R1.1.nn, .int .i64 R1.1.ne] 27)).mono hb.size))
  have BP := Lib.hid (AtB.made hgz)
  have s4 := hb.size
  try simp only [World.size_alloc] at s4
  have BG2xx := Lib.hid (BG2x.out.below KB.out)
  have BWx := Lib.hid (BW.out.below KB.out)
  have K2xx := Lib.hid (K2x.out.trans (KB.out.mono K2x.out.size))
  clear hb hgz KB x0 x1 x2 x3 xf K2x BG2x BW
  have p4 : w.heap.size + 1 < w4.heap.size + 1 := by omega
  obtain ⟨x0, x1, x2, x3, xf⟩ := BG2xx.out.box
  go_wp2_with fail
  refine (refSet_calls _ _ g _ _ n k v BG2xx.out.gr HS.out).mono ?_
  rw [HR1.out]
  rintro e w5 ⟨zn, ze, rfl, hgz, hb⟩
  obtain ⟨⟨A5, L5, c5, rfl⟩, ⟨E5, M5, f5, rfl⟩⟩ := hgz.three'
  have KB := Lib.hid (hb.trans ((Below.heap1 w5 (.cells #[.slice A5 L5 c5, .slice E5 M5 f5, .int .i64 R1.1.nn, .int .i64 R1.1.ne] 27)).mono hb.size))
  have BQ := Lib.hid (AtB.made hgz)
  have s5 := hb.size
  try simp only [World.size_alloc] at s5
  have BG2xxx := Lib.hid (BG2xx.out.below KB.out)
  have BWxx := Lib.hid (BWx.out.below KB.out)
  have BPx := Lib.hid (BP.out.below KB.out)
  have K2xxx := Lib.hid (K2xx.out.trans (KB.out.mono K2xx.out.size))
  clear hb hgz KB x0 x1 x2 x3 xf K2xx BG2xx BWx BP
  have p5 : w.heap.size + 1 < w5.heap.size + 1 := by omega
  obtain ⟨x0, x1, x2, x3, xf⟩ := BG2xxx.out.box
  go_wp2_with fail
  refine (del_calls _ _ g _ _ n k BG2xxx.out.gr HS.out HM.out.rises HF.out.2.2).mono ?_
  rw [HR2.out]
  rintro e w6 ⟨zn, ze, rfl, hgz, hb⟩
  obtain ⟨⟨A6, L6, c6, rfl⟩, ⟨E6, M6, f6, rfl⟩⟩ := hgz.three'
  have KB := Lib.hid (hb.trans ((Below.heap1 w6 (.cells #[.slice A6 L6 c6, .slice E6 M6 f6, .int .i64 R2.1.nn, .int .i64 R2.1.ne] 27)).mono hb.size))
  have BU := Lib.hid (AtB.made hgz)
  have s6 := hb.size
  try simp only [World.size_alloc] at s6
  have BG2xxxx := Lib.hid (BG2xxx.out.below KB.out)
  have BWxxx := Lib.hid (BWxx.out.below KB.out)
  have BPxx := Lib.hid (BPx.out.below KB.out)
  have BQx := Lib.hid (BQ.out.below KB.out)
  have K2xxxx := Lib.hid (K2xxx.out.trans (KB.out.mono K2xxx.out.size))
  clear hb hgz KB x0 x1 x2 x3 xf K2xxx BG2xxx BWxx BPx BQ
  have p6 : w.heap.size + 1 < w6.heap.size + 1 := by omega
  obtain ⟨x0, x1, x2, x3, xf⟩ := BG2xxxx.out.box
  go_wp2_with fail
  refine (refDel_calls _ _ g _ _ n k BG2xxxx.out.gr HS.out).mono ?_
  rw [HR2.out]
  rintro e w7 ⟨zn, ze, rfl, hgz, hb⟩
  obtain ⟨⟨A7, L7, c7, rfl⟩, ⟨E7, M7, f7, rfl⟩⟩ := hgz.three'
  have KB := Lib.hid (hb.trans ((Below.heap1 w7 (.cells #[.slice A7 L7 c7, .slice E7 M7 f7, .int .i64 R2.1.nn, .int .i64 R2.1.ne] 27)).mono hb.size))
  have BV0 := Lib.hid (AtB.made hgz)
  have s7 := hb.size
  try simp only [World.size_alloc] at s7
  have BG2xxxxx := Lib.hid (BG2xxxx.out.below KB.out)
  have BWxxxx := Lib.hid (BWxxx.out.below KB.out)
  have BPxxx := Lib.hid (BPxx.out.below KB.out)
  have BQxx := Lib.hid (BQx.out.below KB.out)
  have BUx := Lib.hid (BU.out.below KB.out)
  have K2xxxxx := Lib.hid (K2xxxx.out.trans (KB.out.mono K2xxxx.out.size))
  clear hb hgz KB x0 x1 x2 x3 xf K2xxxx BG2xxxx BWxxx BPxx BQx BU
  have p7 : w.heap.size + 1 < w7.heap.size + 1 := by omega
  obtain ⟨x0, x1, x2, x3, xf⟩ := BG2xxxxx.out.box
  go_wp2_with fail
  refine (get_calls _ _ g _ _ n BG2xxxxx.out.gr HS.out).mono ?_
  rw [HR3.out]
  rintro e w8 ⟨vp, rfl, hop, hb⟩
  obtain ⟨AP, cp, rfl⟩ := hop.slice
  have s8 := hb.size
  simp only [World.size_alloc] at s8
  have BG := Lib.hid (BG2xxxxx.out.below hb)
  have BW := Lib.hid (BWxxxx.out.below hb)
  have BP := Lib.hid (BPxxx.out.below hb)
  have BQ := Lib.hid (BQxx.out.below hb)
  have BU := Lib.hid (BUx.out.below hb)
  have BV := Lib.hid (BV0.out.below hb)
  have KK := Lib.hid (K2xxxxx.out.trans (hb.mono K2xxxxx.out.size))
  have HOP := Lib.hid (hop.mono (S' := fun k => w7.heap.size < k) fun k hk _ => by simp at hk; omega)
  clear hb hop x0 x1 x2 x3 xf BG2xxxxx BWxxxx BPxxx BQxx BUx BV0 K2xxxxx
  obtain ⟨x0, x1, x2, x3, xf⟩ := BG.out.box
  obtain ⟨a0, a1, a2, a3, af⟩ := BW.out.box
  obtain ⟨b0, b1, b2, b3, bf⟩ := BP.out.box
  obtain ⟨c0, c1, c2, c3, cf⟩ := BQ.out.box
  obtain ⟨d0, d1, d2, d3, df⟩ := BU.out.box
  obtain ⟨f0, f1, f2, f3, ff⟩ := BV.out.box
  have lx := BG.out.lt
  have la := BW.out.lt
  have lb := BP.out.lt
  have lc := BQ.out.lt
  have ld := BU.out.lt
  have lf := BV.out.lt
  go_wp2_with fail
  refine (refGet_calls _ _ g _ _ n BG.out.gr HS.out).mono ?_
  rw [HR3.out]
  rintro e w9 ⟨vq, rfl, hoq, hb⟩
  obtain ⟨AQ, cq, rfl⟩ := hoq.slice
  have s9 := hb.size
  have HOP := Lib.hid (HOP.out.below hb)
  have HOQ := Lib.hid hoq.row
  have BG := Lib.hid (BG.out.below hb)
  have BW := Lib.hid (BW.out.below hb)
  have BP := Lib.hid (BP.out.below hb)
  have BQ := Lib.hid (BQ.out.below hb)
  have BU := Lib.hid (BU.out.below hb)
  have BV := Lib.hid (BV.out.below hb)
  have KK := Lib.hid (KK.out.trans (hb.mono KK.out.size))
  clear x0 x1 x2 x3 xf a0 a1 a2 a3 af b0 b1 b2 b3 bf c0 c1 c2 c3 cf d0 d1 d2 d3 df f0 f1 f2 f3 ff lx la lb lc ld lf
  clear hb hoq
  obtain ⟨x0, x1, x2, x3, xf⟩ := BG.out.box
  obtain ⟨a0, a1, a2, a3, af⟩ := BW.out.box
  obtain ⟨b0, b1, b2, b3, bf⟩ := BP.out.box
  obtain ⟨c0, c1, c2, c3, cf⟩ := BQ.out.box
  obtain ⟨d0, d1, d2, d3, df⟩ := BU.out.box
  obtain ⟨f0, f1, f2, f3, ff⟩ := BV.out.box
  have lx := BG.out.lt
  have la := BW.out.lt
  have lb := BP.out.lt
  have lc := BQ.out.lt
  have ld := BU.out.lt
  have lf := BV.out.lt
  go_wp2_with fail
  refine (refSame_calls _ (fun _ => True) R1.1 _ _ _ _ (BP.out.gr.mono fun _ _ _ => trivial) (BQ.out.gr.mono fun _ _ _ => trivial)).mono ?_
  rintro e w108 ⟨rfl, hb⟩
  have HOP := Lib.hid (HOP.out.below hb)
  have HOQ := Lib.hid (HOQ.out.below hb)
  have s108 := hb.size
  have BG := Lib.hid (BG.out.below hb)
  have BW := Lib.hid (BW.out.below hb)
  have BP := Lib.hid (BP.out.below hb)
  have BQ := Lib.hid (BQ.out.below hb)
  have BU := Lib.hid (BU.out.below hb)
  have BV := Lib.hid (BV.out.below hb)
  have KK := Lib.hid (KK.out.trans (hb.mono KK.out.size))
  clear x0 x1 x2 x3 xf a0 a1 a2 a3 af b0 b1 b2 b3 bf c0 c1 c2 c3 cf d0 d1 d2 d3 df f0 f1 f2 f3 ff lx la lb lc ld lf
  clear hb
  obtain ⟨x0, x1, x2, x3, xf⟩ := BG.out.box
  obtain ⟨a0, a1, a2, a3, af⟩ := BW.out.box
  obtain ⟨b0, b1, b2, b3, bf⟩ := BP.out.box
  obtain ⟨c0, c1, c2, c3, cf⟩ := BQ.out.box
  obtain ⟨d0, d1, d2, d3, df⟩ := BU.out.box
  obtain ⟨f0, f1, f2, f3, ff⟩ := BV.out.box
  have lx := BG.out.lt
  have la := BW.out.lt
  have lb := BP.out.lt
  have lc := BQ.out.lt
  have ld := BU.out.lt
  have lf := BV.out.lt
  go_wp2_with fail
  refine (refSame_calls _ (fun _ => True) R2.1 _ _ _ _ (BU.out.gr.mono fun _ _ _ => trivial) (BV.out.gr.mono fun _ _ _ => trivial)).mono ?_
  rintro e w109 ⟨rfl, hb⟩
  have HOP := Lib.hid (HOP.out.below hb)
  have HOQ := Lib.hid (HOQ.out.below hb)
  have s109 := hb.size
  have BG := Lib.hid (BG.out.below hb)
  have BW := Lib.hid (BW.out.below hb)
  have BP := Lib.hid (BP.out.below hb)
  have BQ := Lib.hid (BQ.out.below hb)
  have BU := Lib.hid (BU.out.below hb)
  have BV := Lib.hid (BV.out.below hb)
  have KK := Lib.hid (KK.out.trans (hb.mono KK.out.size))
  clear x0 x1 x2 x3 xf a0 a1 a2 a3 af b0 b1 b2 b3 bf c0 c1 c2 c3 cf d0 d1 d2 d3 df f0 f1 f2 f3 ff lx la lb lc ld lf
  clear hb
  obtain ⟨x0, x1, x2, x3, xf⟩ := BG.out.box
  obtain ⟨a0, a1, a2, a3, af⟩ := BW.out.box
  obtain ⟨b0, b1, b2, b3, bf⟩ := BP.out.box
  obtain ⟨c0, c1, c2, c3, cf⟩ := BQ.out.box
  obtain ⟨d0, d1, d2, d3, df⟩ := BU.out.box
  obtain ⟨f0, f1, f2, f3, ff⟩ := BV.out.box
  have lx := BG.out.lt
  have la := BW.out.lt
  have lb := BP.out.lt
  have lc := BQ.out.lt
  have ld := BU.out.lt
  have lf := BV.out.lt
  go_wp2_with fail
  refine (samePairs_calls _ (fun _ => True) _ _ R3.1 R3.1 (HOP.out.row.mono fun _ _ _ => trivial) (HOQ.out.mono fun _ _ _ => trivial)).mono ?_
  rintro e w20 ⟨rfl, hb⟩
  rw [show decide (R3.1 = R3.1) = true from decide_eq_true rfl]
  have HOP := Lib.hid (HOP.out.below hb)
  have s20 := hb.size
  have BG := Lib.hid (BG.out.below hb)
  have BW := Lib.hid (BW.out.below hb)
  have BP := Lib.hid (BP.out.below hb)
  have BQ := Lib.hid (BQ.out.below hb)
  have BU := Lib.hid (BU.out.below hb)
  have BV := Lib.hid (BV.out.below hb)
  have KK := Lib.hid (KK.out.trans (hb.mono KK.out.size))
  clear x0 x1 x2 x3 xf a0 a1 a2 a3 af b0 b1 b2 b3 bf c0 c1 c2 c3 cf d0 d1 d2 d3 df f0 f1 f2 f3 ff lx la lb lc ld lf
  clear hb
  have hl3 : R3.1.length ≤ 1000000 := by
    rw [← HR3.out]
    by_cases ha : atOf g.nodes n < 0
    · rw [getOf_none ha]; simp
    · obtain ⟨i, x, hi, hx, _⟩ := atOf_at ha
      rw [getOf_some hi hx]
      exact HS.out.2.2 x (List.mem_of_getElem? hx)
  go_wp2
  go_loopw [106] (fun p wr => ∃ (j : Nat) (ys : List P2), j ≤ R3.1.length ∧ p = .int .i64 (j : Int) ∧ Hid (Own tP 47 wr (fun k => w7.heap.size < k) (.slice AP R3.1.length cp) ys) ∧ ys.length = R3.1.length ∧ Hid (Same (fun k => k ≤ w7.heap.size) w20 wr) ∧ Hid (Below w.heap.size w wr) ∧ w20.heap.size ≤ wr.heap.size) (fun p _ => R3.1.length - (intOf p).toNat)
  case atStart => exact ⟨0, R3.1, by omega, rfl, HOP, rfl, Lib.hid (fun _ _ _ => rfl), KK, by omega⟩
  case round =>
    obtain ⟨wa, rfl⟩ : ∃ wa, wa = wr := ⟨wr, rfl⟩
    obtain ⟨j, ys, hj, rfl, ho, hyl, hsm, hb, hsz⟩ := hrel
    have hwa := hb.out.size
    by_cases hlt : j < R3.1.length
    case neg =>
      obtain rfl : j = R3.1.length := by omega
      have BG := Lib.hid (BG.out.move (hsm.out.mono fun k hk => by omega) hsz)
      have BW := Lib.hid (BW.out.move (hsm.out.mono fun k hk => by omega) hsz)
      obtain ⟨x0, x1, x2, x3, xf⟩ := BG.out.box
      obtain ⟨a0, a1, a2, a3, af⟩ := BW.out.box
      have lx := BG.out.lt
      have la := BW.out.lt
      go_wp2_with fail
      refine (refSame_calls _ (fun _ => True) g _ _ _ _ (BG.out.gr.mono fun _ _ _ => trivial) (BW.out.gr.mono fun _ _ _ => trivial)).mono ?_
      rintro e w30 ⟨rfl, hb3⟩
      have KE := Lib.hid (hb.out.trans (hb3.mono hwa))
      clear hb3 x0 x1 x2 x3 xf a0 a1 a2 a3 af
      go_wp2
      go_ret
      exact ⟨rfl, KE.out⟩
    obtain ⟨y, hy⟩ := getElem?_of_lt (show j < ys.length by omega)
    obtain ⟨gP, rfl, hgP, hgl⟩ := ho.out.head (by omega)
    obtain ⟨bP, oP, hAP, _, _, u0, u1⟩ := ho.out.row.atP hy
    injection hAP with hAP
    injection hAP with h1 h2
    subst h1 h2
    simp only [Nat.zero_add] at u0 u1
    have hfz := ho.out.frozenC (j * 2 + 1)
    have NO := ho.out.setFlat (p := j) (i := 1) (y := y) (y' := ⟨y.x, wrap64 (y.y + 1)⟩) (u := .int .i64 (wrap64 (y.y + 1))) hy (by decide) rfl
    clear hy
    go_wp2
    go_roundw
    case rel => exact ⟨j + 1, ys.set j ⟨y.x, wrap64 (y.y + 1)⟩, by omega, by first | (go_num; done) | (go_num; omega), Lib.hid NO, by simp [hyl], Lib.hid (hsm.out.trans (by omega) (Same.of_setCell _ ⟨gP, j * 2 + 1, none⟩ _ (fun k hk => by simp only; omega))), Lib.hid (hb.out.setCell (p := ⟨gP, j * 2 + 1, none⟩) (by simp only; omega) _), by simp; omega⟩
    case measure => simp [intOf]; omega
end Go.Proofs.Ytpehmmdbjakkpaa
