/- ApplyTakes: an operation that takes a record makes one more of that kind, one that takes none makes none more of any. -/
import Derived.Test.YtpehmmdbjakkpaaLiveA
namespace Go.Proofs.Ytpehmmdbjakkpaa
open Go.RowKit Go.Shelf
set_option linter.unusedSimpArgs false
set_option linter.unusedVariables false
set_option maxRecDepth 100000 in
set_option maxHeartbeats 16000000 in
theorem applyTakes_walk (w : World) (c : CfgD) (g : GraphD) (vn ve : Value) (hg : Gr w (fun _ => True) g vn ve) (o : OpD) : Calls Try.prog 11 #[c.val, .agg #[vn, ve, .int .i64 g.nn, .int .i64 g.ne], o.val] w fun e w' => e = .returned (.bool true) ∧ Below w.heap.size w w' := by
  obtain ⟨⟨A1, c1, rfl⟩, ⟨A2, c2, rfl⟩⟩ := hg.slices
  obtain ⟨W0, hW⟩ : ∃ W0, W0 = ((w.alloc (.cells #[.int .i64 c.nodes, .int .i64 c.edges, .int .i64 c.props, .int .i64 c.ids, .int .i64 c.eids] 23)).alloc (.cells #[.slice A1 g.nodes.length c1, .slice A2 g.edges.length c2, .int .i64 g.nn, .int .i64 g.ne] 27)).alloc (.cells #[.int .i64 o.k, .int .i64 o.a, .int .i64 o.b, .int .i64 o.p, .int .i64 o.v] 73) := ⟨_, rfl⟩
  obtain ⟨hc0, s0⟩ := cgo_made w _ c g _ _ o hg W0 hW
  have C0 := Lib.hid hc0
  clear hg hc0 s0
  unfold OpD.val CfgD.val
  go_enter Try.func11, Try.ntmps11
  go_wp2_with fail
  rw [← hW]
  clear hW
  refine (live11_calls W0).mono ?_
  rintro e w1 ⟨rfl, hb⟩
  have C1 := Lib.hid (C0.out.below hb)
  have s1 := C1.out.hl
  clear hb C0
  obtain ⟨x0, x1, x2, x3, xf⟩ := C1.out.bg
  obtain ⟨d0, d1, d2, d3, d4, df⟩ := C1.out.cf
  have g1 : w.heap.size < w1.heap.size := by omega
  have g2 : w.heap.size + 1 < w1.heap.size := by omega
  go_wp2_with fail
  refine (may11_calls w1 _ c g _ _ C1.out.hg).mono ?_
  rintro e w2 ⟨b, rfl, hmay, hb⟩
  have C2 := Lib.hid (C1.out.below hb)
  have s2 := C2.out.hl
  clear hb C1 x0 x1 x2 x3 xf d0 d1 d2 d3 d4 df g1 g2 s1
  cases b
  case false =>
    go_wp2
    go_ret
    exact ⟨rfl, C2.out.K⟩
  obtain ⟨hfew, hm⟩ := hmay rfl
  have HS := Lib.hid (hm.start hfew)
  have HR := Lib.hid (HS.out.rdy hm.head.cfg)
  clear hfew hm hmay
  have g1 : w.heap.size < w2.heap.size := by omega
  have g2 : w.heap.size + 1 < w2.heap.size := by omega
  have g3 : w.heap.size + 1 + 1 < w2.heap.size := by omega
  obtain ⟨x0, x1, x2, x3, xf⟩ := C2.out.bg
  obtain ⟨d0, d1, d2, d3, d4, df⟩ := C2.out.cf
  obtain ⟨o0, o1, o2, o3, o4, of⟩ := C2.out.op
  go_wp2_with fail
  refine (do_calls w2 _ c g _ _ o C2.out.hg HR.out).mono ?_
  rintro e w4 hp
  obtain ⟨A4, L4, c4, B4, M4, e4, p4, q4, r4, s4, t4, u4, rfl, hz, hr, hb⟩ := do_slices hp
  clear hp
  have HDL := Lib.hid (do_delta c g o)
  have HGD := Lib.hid (do_good (o := o) HS.out)
  have HTR := Lib.hid (takes_range c g o)
  revert HDL HGD hz hr
  generalize doOf c g o = dd
  intro hz hr HDL HGD
  obtain ⟨z, r⟩ := dd
  simp only at hz hr HDL HGD ⊢
  obtain ⟨⟨A9, c9, e9⟩, ⟨A10, c10, e10⟩⟩ := hz.slices
  have f9 : L4 = z.nodes.length := by injection e9
  have f10 : M4 = z.edges.length := by injection e10
  clear e9 e10 A9 c9 A10 c10
  subst f9 f10
  have C4 := Lib.hid (C2.out.below hb)
  have ss4 := hb.size
  have ss5 := C4.out.hl
  obtain ⟨U4, hV⟩ : ∃ V, V = (w4.alloc (.cells #[.slice A4 z.nodes.length c4, .slice B4 z.edges.length e4, .int .i64 z.nn, .int .i64 z.ne] 27)).alloc (.cells #[.int .i64 r.st, .int .i64 r.id, .slice p4 r.ps.length q4, .slice r4 r.os.length s4, .slice t4 r.is.length u4] 75) := ⟨_, rfl⟩
  have hbv : Below w4.heap.size w4 U4 := by rw [hV]; exact (by repeat (first | (with_reducible exact Below.refl _ _) | (with_reducible exact Below.refl _ _) | (with_reducible refine Below.drew ?_) | (with_reducible refine Below.alloc ?_ (by simp; try omega) _) | (with_reducible refine Below.setCell ?_ (by simp; try omega) _)))
  have sv : w4.heap.size + 1 < U4.heap.size := by rw [hV]; simp
  have BG4 := Lib.hid (show Box4 U4 w4.heap.size _ _ _ _ from by rw [hV]; exact (Box4.made w4 27 _ _ _ _).keep (Below.heap_alloc _ _ _ (by simp)))
  have BR4 := Lib.hid (show Box5 U4 (w4.heap.size + 1) _ _ _ _ _ from Box5.of (n := 75) (by
    rw [hV]
    have := heap_alloc_new (w4.alloc (.cells #[.slice A4 z.nodes.length c4, .slice B4 z.edges.length e4, .int .i64 z.nn, .int .i64 z.ne] 27)) (.cells #[.int .i64 r.st, .int .i64 r.id, .slice p4 r.ps.length q4, .slice r4 r.os.length s4, .slice t4 r.is.length u4] 75)
    rw [World.size_alloc] at this
    exact this))
  have CX := Lib.hid ((C2.out.below hb).below hbv)
  have G4 := Lib.hid ((hz.below hbv).mono (S' := fun _ => True) fun _ _ _ => trivial)
  have R4 := Lib.hid ((hr.below hbv).mono (S' := fun _ => True) fun _ _ _ => trivial)
  have sw := hb.size
  clear hz hr hb hbv x0 x1 x2 x3 xf d0 d1 d2 d3 d4 df o0 o1 o2 o3 o4 of g1 g2 g3
  have sv2 : w4.heap.size < U4.heap.size := by omega
  obtain ⟨x0, x1, x2, x3, xf⟩ := C4.out.bg
  obtain ⟨d0, d1, d2, d3, d4, df⟩ := C4.out.cf
  obtain ⟨o0, o1, o2, o3, o4, of⟩ := C4.out.op
  have g0 := C4.out.hl
  have g1 : w.heap.size < w4.heap.size := by omega
  have g2 : w.heap.size + 1 < w4.heap.size := by omega
  have g3 : w.heap.size + 1 + 1 < w4.heap.size := by omega
  have q0 : w4.heap.size < U4.heap.size := by omega
  have hl1 := HS.out.ln
  have hl2 := HS.out.le
  have hl3 := HGD.out.ln
  have hl4 := HGD.out.le
  go_wp2
  rw [← hV]
  clear hV x0 x1 x2 x3 xf d0 d1 d2 d3 d4 df o0 o1 o2 o3 o4 of g1 g2 g3 g0 C4 C2
  have hsum : ∀ n, psum (g.nodes.take n) ≤ 1000 * 101 := fun n => by
    have h1 := psum_mid (xs := g.nodes.take n) fun x hx => by have := HS.out.lp x (List.mem_of_mem_take hx); omega
    have h2 : (g.nodes.take n).length ≤ 101 := by rw [List.length_take]; omega
    have h3 : 1000 * (g.nodes.take n).length ≤ 1000 * 101 := Nat.mul_le_mul_left _ h2
    omega
  have HSUM := Lib.hid hsum
  have hsum2 : ∀ n, psum (z.nodes.take n) ≤ 1000 * 101 := fun n => by
    have h1 := psum_mid (xs := z.nodes.take n) fun x hx => by have := HGD.out.lp x (List.mem_of_mem_take hx); omega
    have h2 : (z.nodes.take n).length ≤ 101 := by rw [List.length_take]; omega
    have h3 : 1000 * (z.nodes.take n).length ≤ 1000 * 101 := Nat.mul_le_mul_left _ h2
    omega
  have HSUM2 := Lib.hid hsum2
  clear hsum hsum2
  go_loopw [9, 35] (fun t p wr => ∃ j : Nat, j ≤ g.nodes.length ∧ p = .int .i64 (j : Int) ∧ t = .int .i64 (psum (g.nodes.take j) : Int) ∧ Hid (Below U4.heap.size U4 wr)) (fun _ p _ => g.nodes.length - (intOf p).toNat)
  case atStart => exact ⟨0, by omega, rfl, rfl, Below.refl _ _⟩
  case round =>
    obtain ⟨wc, rfl⟩ : ∃ wc, wc = wr := ⟨wr, rfl⟩
    obtain ⟨j, hj, rfl, rfl, hbc⟩ := hrel
    have sc := hbc.out.size
    have hps := HSUM.out j
    by_cases hjt : j < g.nodes.length
    case pos =>
      obtain ⟨x, hx⟩ := getElem?_of_lt hjt
      have HGC := Lib.hid (CX.out.hg.below hbc.out)
      obtain ⟨bn, on, ap, dp, rfl, _, hbn, hr, y0, y1⟩ := HGC.out.atN hx
      have hpx := HS.out.lp x (List.mem_of_getElem? hx)
      have HPS := Lib.hid (psum_succ hx)
      have KP := Lib.hid (hbc.out.trans ((Below.heap1 wc (.cells #[.int .i64 x.id, .slice ap x.ps.length dp] 32)).mono sc))
      clear hx hr HGC
      generalize hps0 : psum (g.nodes.take j) = ps0 at *
      clear hps0
      go_wp2
      go_roundw
      case rel => exact ⟨j + 1, by omega, by first | (go_num; done) | (go_num; omega), by rw [HPS.out]; first | (go_num; done) | (go_num; omega), KP⟩
      case measure => simp [intOf]; omega
    obtain rfl : j = g.nodes.length := by omega
    rw [List.take_length] at hps ⊢
    have C5 := Lib.hid (CX.out.below hbc.out)
    have BG5 := Lib.hid (BG4.out.keep (hbc.out.block _ q0))
    have G5 := Lib.hid (G4.out.below hbc.out)
    have q1 : w4.heap.size < wc.heap.size := by omega
    clear hbc sc CX BG4 G4 BR4 R4
    obtain ⟨w5, rfl⟩ : ∃ w5, w5 = wc := ⟨wc, rfl⟩
    obtain ⟨a0, a1, a2, a3, af⟩ := BG5.out
    obtain ⟨pg, hpg⟩ : ∃ p, p = psum g.nodes := ⟨_, rfl⟩
    have HPG := Lib.hid hpg
    rw [← hpg] at hps ⊢
    clear hpg
    have hps1 := hps
    clear hps
    go_wp2
    clear a0 a1 a2 a3 af
    go_loopw [10, 48] (fun t p wr => ∃ j : Nat, j ≤ z.nodes.length ∧ p = .int .i64 (j : Int) ∧ t = .int .i64 (psum (z.nodes.take j) : Int) ∧ Hid (Below w5.heap.size w5 wr)) (fun _ p _ => z.nodes.length - (intOf p).toNat)
    case atStart => exact ⟨0, by omega, rfl, rfl, Below.refl _ _⟩
    case round =>
      obtain ⟨wc, rfl⟩ : ∃ wc, wc = wr := ⟨wr, rfl⟩
      obtain ⟨j, hj, rfl, rfl, hbc⟩ := hrel
      have sc := hbc.out.size
      have hps := HSUM2.out j
      by_cases hjt : j < z.nodes.length
      case pos =>
        obtain ⟨x, hx⟩ := getElem?_of_lt hjt
        have HGC := Lib.hid (G5.out.below hbc.out)
        obtain ⟨bn, on, ap, dp, rfl, _, hbn, hr, y0, y1⟩ := HGC.out.atN hx
        have hpx := HGD.out.lp x (List.mem_of_getElem? hx)
        have HPS := Lib.hid (psum_succ hx)
        have KP := Lib.hid (hbc.out.trans ((Below.heap1 wc (.cells #[.int .i64 x.id, .slice ap x.ps.length dp] 32)).mono sc))
        clear hx hr HGC
        generalize hps0 : psum (z.nodes.take j) = ps0 at *
        clear hps0
        go_wp2
        go_roundw
        case rel => exact ⟨j + 1, by omega, by first | (go_num; done) | (go_num; omega), by rw [HPS.out]; first | (go_num; done) | (go_num; omega), KP⟩
        case measure => simp [intOf]; omega
      obtain rfl : j = z.nodes.length := by omega
      rw [List.take_length] at hps ⊢
      have C6 := Lib.hid (C5.out.below hbc.out)
      have BG6 := Lib.hid (BG5.out.keep (hbc.out.block _ q1))
      have q2 : w4.heap.size < wc.heap.size := by omega
      clear hbc sc C5 BG5 G5
      obtain ⟨w6, rfl⟩ : ∃ w6, w6 = wc := ⟨wc, rfl⟩
      obtain ⟨pz, hpz⟩ : ∃ p, p = psum z.nodes := ⟨_, rfl⟩
      have HPZ := Lib.hid hpz
      rw [← hpz] at hps ⊢
      clear hpz
      obtain ⟨x0, x1, x2, x3, xf⟩ := C6.out.bg
      obtain ⟨d0, d1, d2, d3, d4, df⟩ := C6.out.cf
      obtain ⟨o0, o1, o2, o3, o4, of⟩ := C6.out.op
      have g0 := C6.out.hl
      have g1 : w.heap.size < w6.heap.size := by omega
      have g2 : w.heap.size + 1 < w6.heap.size := by omega
      have g3 : w.heap.size + 1 + 1 < w6.heap.size := by omega
      go_wp2_with fail
      refine (takes_calls w6 _ c g _ _ o C6.out.hg HR.out).mono ?_
      generalize takesOf c g o = k at HDL HTR ⊢
      rintro e w7 ⟨rfl, hb⟩
      have C7 := Lib.hid (C6.out.below hb)
      have BG7 := Lib.hid (BG6.out.keep (hb.block _ q2))
      have ss7 := hb.size
      have q3 : w4.heap.size < w7.heap.size := by omega
      clear hb C6 BG6 x0 x1 x2 x3 xf d0 d1 d2 d3 d4 df o0 o1 o2 o3 o4 of g1 g2 g3 g0
      obtain ⟨x0, x1, x2, x3, xf⟩ := C7.out.bg
      have g0 := C7.out.hl
      have g1 : w.heap.size + 1 < w7.heap.size := by omega
      obtain ⟨a0, a1, a2, a3, af⟩ := BG7.out
      have HD2 := Lib.hid (show (k = 1 → z.nodes.length = g.nodes.length + 1) ∧ (k ≠ 1 → z.nodes.length ≤ g.nodes.length) ∧ (k = 2 → z.edges.length = g.edges.length + 1) ∧ (k ≠ 2 → z.edges.length ≤ g.edges.length) ∧ (k = 3 → pz = pg + 1) ∧ (k ≠ 3 → pz ≤ pg) from ⟨HDL.out.n1, HDL.out.n0, HDL.out.e1, HDL.out.e0, fun e => by rw [HPZ.out, HPG.out]; exact HDL.out.p1 e, fun e => by rw [HPZ.out, HPG.out]; exact HDL.out.p0 e⟩)
      have KE := Lib.hid C7.out.K
      generalize z.nodes.length = n1 at *
      generalize g.nodes.length = n0 at *
      generalize z.edges.length = m1 at *
      generalize g.edges.length = m0 at *
      go_wp2_with fail
      refine wp_region_schedK (fun _ => True) [(0, true), (1, true), (2, true), (3, true), (4, true), (5, true), (6, true), (7, true), (8, true), (9, true), (10, true), (11, true), (12, true), (13, true), (14, true), (15, true), (16, true), (17, true), (18, true), (19, true)] (by kernel_rfl) (by kernel_rfl) (fun hS => ?_)
      have HK := Lib.hid hS
      clear hS
      replace KE := Lib.hid KE.out.drew
      revert HK KE
      generalize w7.drew = Wd
      intro HK KE
      repeat (refine sched_take (v := ?_) (by simp only [List.getElem?_toArray, List.getElem?_cons_succ, List.getElem?_cons_zero]; rfl) (Or.inl ⟨by rfl, fun W hW => ?_⟩) HK.out ?_; rotate_left; (have hc := fun b o hb => hW.cell b o trivial hb; clear hW; go_simp; with_reducible rfl); simp only [Act.put, List.setIfInBounds_toArray, List.set_cons_zero, List.set_cons_succ])
      have wn : IntKind.i64.wrap ((n1 : Int) - (n0 : Int)) = (n1 : Int) - n0 := by rw [Go.IntWalk.i64_left]; exact Go.IntWalk.wrap64_in _ (by omega)
      have wm : IntKind.i64.wrap ((m1 : Int) - (m0 : Int)) = (m1 : Int) - m0 := by rw [Go.IntWalk.i64_left]; exact Go.IntWalk.wrap64_in _ (by omega)
      have wp : IntKind.i64.wrap ((pz : Int) - (pg : Int)) = (pz : Int) - pg := by rw [Go.IntWalk.i64_left]; exact Go.IntWalk.wrap64_in _ (by omega)
      rw [wn, wm, wp]
      clear wn wm wp
      refine sched_done ?_
      obtain ⟨b1, b2, b3, b4, b5, b6⟩ := HD2.out
      have D1 : k = 1 → (n1 : Int) - n0 = 1 := fun e => by have := b1 e; omega
      have D2 : k ≠ 1 → (n1 : Int) - n0 ≤ 0 := fun e => by have := b2 e; omega
      have D3 : k = 2 → (m1 : Int) - m0 = 1 := fun e => by have := b3 e; omega
      have D4 : k ≠ 2 → (m1 : Int) - m0 ≤ 0 := fun e => by have := b4 e; omega
      have D5 : k = 3 → (pz : Int) - pg = 1 := fun e => by have := b5 e; omega
      have D6 : k ≠ 3 → (pz : Int) - pg ≤ 0 := fun e => by have := b6 e; omega
      clear b1 b2 b3 b4 b5 b6 HD2 HK
      revert D1 D2 D3 D4 D5 D6
      generalize (n1 : Int) - n0 = dn
      generalize (m1 : Int) - m0 = dm
      generalize (pz : Int) - pg = dp
      intro D1 D2 D3 D4 D5 D6
      have HTK := HTR.out
      clear HTR
      have pos : ∀ x : Int, x ≤ 0 → decide (0 < x) = false ∧ decide (x ≤ 1) = true := fun x hx => ⟨decide_eq_false (by omega), decide_eq_true (by omega)⟩
      rcases HTK with rfl | rfl | rfl | rfl
      · obtain ⟨e1, e2⟩ := pos _ (D2 (by decide))
        obtain ⟨e3, e4⟩ := pos _ (D4 (by decide))
        obtain ⟨e5, e6⟩ := pos _ (D6 (by decide))
        clear D1 D2 D3 D4 D5 D6 pos
        go_wp2
        go_ret
        exact ⟨rfl, KE.out⟩
      · obtain rfl := D1 rfl
        obtain ⟨e3, e4⟩ := pos _ (D4 (by decide))
        obtain ⟨e5, e6⟩ := pos _ (D6 (by decide))
        clear D1 D2 D3 D4 D5 D6 pos
        go_wp2
        go_ret
        exact ⟨rfl, KE.out⟩
      · obtain ⟨e1, e2⟩ := pos _ (D2 (by decide))
        obtain rfl := D3 rfl
        obtain ⟨e5, e6⟩ := pos _ (D6 (by decide))
        clear D1 D2 D3 D4 D5 D6 pos
        go_wp2
        go_ret
        exact ⟨rfl, KE.out⟩
      · obtain ⟨e1, e2⟩ := pos _ (D2 (by decide))
        obtain ⟨e3, e4⟩ := pos _ (D4 (by decide))
        obtain rfl := D5 rfl
        clear D1 D2 D3 D4 D5 D6 pos
        go_wp2
        go_ret
        exact ⟨rfl, KE.out⟩
end Go.Proofs.Ytpehmmdbjakkpaa
