/- GraphEdges: an edge is seen from both its ends, and from no other node. -/
import Derived.Test.YtpehmmdbjakkpaaEdgeLaw
import Derived.Test.YtpehmmdbjakkpaaEqE
namespace Go.Proofs.Ytpehmmdbjakkpaa
open Go.RowKit Go.Shelf
set_option linter.unusedSimpArgs false
set_option linter.unusedVariables false
set_option maxRecDepth 20000 in
set_option maxHeartbeats 4000000 in
theorem may_calls (w : World) (S : Nat → Prop) (c : CfgD) (g : GraphD) (vn ve : Value) (h : Gr w S g vn ve) : Calls Try.prog 21 #[c.val, .agg #[vn, ve, .int .i64 g.nn, .int .i64 g.ne]] w fun e w' => ∃ b : Bool, e = .returned (.bool b) ∧ (b = true → g.few ∧ MayG c g) ∧ Below w.heap.size w w' := by
  obtain ⟨⟨A1, c1, rfl⟩, ⟨A2, c2, rfl⟩⟩ := h.slices
  have hW0 : Below w.heap.size w ((w.alloc (.cells #[.int .i64 c.nodes, .int .i64 c.edges, .int .i64 c.props, .int .i64 c.ids, .int .i64 c.eids] 23)).alloc (.cells #[.slice A1 g.nodes.length c1, .slice A2 g.edges.length c2, .int .i64 g.nn, .int .i64 g.ne] 27)) := ((Below.refl w.heap.size w).alloc (Nat.le_refl _) _).alloc (by simp) _
  have KW := Lib.hid hW0
  have H0 := Lib.hid (h.below hW0)
  clear hW0 h
  unfold CfgD.val
  go_enter Try.func21, Try.ntmps21
  go_wp2_with fail
  refine (few_calls _ S g _ _ H0.out).mono ?_
  rintro e w1 ⟨b, rfl, hb, hb1⟩
  have s1 := hb1.size
  have hc1 := (bcell hb1).1
  have K1 := Lib.hid (KW.out.trans (hb1.mono (by simp; omega)))
  have H1 := Lib.hid (H0.out.below hb1)
  have HB := Lib.hid hb
  clear hb1 hb
  simp only [World.size_alloc] at s1 hc1
  have g1 : w.heap.size < w.heap.size + 1 + 1 := by omega
  have g2 : w.heap.size + 1 < w.heap.size + 1 + 1 := by omega
  cases b
  · go_wp2
    go_ret
    exact ⟨false, rfl, (fun e => by cases e), K1.out⟩
  go_wp2_with fail
  refine (refCheck_calls _ S c g _ _ H1.out (HB.out (by trivial))).mono ?_
  rintro e w2 ⟨x, rfl, hx, hb2⟩
  have K2 := Lib.hid (K1.out.trans (hb2.mono K1.out.size))
  have HX := Lib.hid (show (x == 0) = true → g.few ∧ MayG c g from fun e => ⟨HB.out (by trivial), hx (beq_iff_eq.mp e)⟩)
  clear hb2 hx hc1
  go_wp2
  go_ret
  exact ⟨_, rfl, HX.out, K2.out⟩
set_option maxRecDepth 100000 in
set_option maxHeartbeats 8000000 in
theorem graphEdges_walk (w : World) (c : CfgD) (g : GraphD) (vn ve : Value) (hg : Gr w (fun _ => True) g vn ve) : Calls Try.prog 3 #[c.val, .agg #[vn, ve, .int .i64 g.nn, .int .i64 g.ne]] w fun e w' => e = .returned (.bool true) ∧ Below w.heap.size w w' := by
  obtain ⟨⟨A1, c1, rfl⟩, ⟨A2, c2, rfl⟩⟩ := hg.slices
  have hW0 : Below w.heap.size w ((w.alloc (.cells #[.int .i64 c.nodes, .int .i64 c.edges, .int .i64 c.props, .int .i64 c.ids, .int .i64 c.eids] 23)).alloc (.cells #[.slice A1 g.nodes.length c1, .slice A2 g.edges.length c2, .int .i64 g.nn, .int .i64 g.ne] 27)) := ((Below.refl w.heap.size w).alloc (Nat.le_refl _) _).alloc (by simp) _
  have KW := Lib.hid hW0
  have H0 := Lib.hid (hg.below hW0)
  have BX := Lib.hid (Box4.made (w.alloc (.cells #[.int .i64 c.nodes, .int .i64 c.edges, .int .i64 c.props, .int .i64 c.ids, .int .i64 c.eids] 23)) 27 (.slice A1 g.nodes.length c1) (.slice A2 g.edges.length c2) (.int .i64 g.nn) (.int .i64 g.ne))
  clear hW0 hg
  simp only [World.size_alloc] at BX
  unfold CfgD.val
  go_enter Try.func3, Try.ntmps3
  go_wp2_with fail
  refine (live_calls _).mono ?_
  rintro e w1 ⟨rfl, hb1⟩
  have s1 := hb1.size
  have hc1 := (bcell hb1).1
  have K1 := Lib.hid (KW.out.trans (hb1.mono (by simp; omega)))
  have H1 := Lib.hid (H0.out.below hb1)
  have BX1 := Lib.hid (BX.out.keep (hb1.block _ (by simp)))
  clear hb1 KW H0 BX
  simp only [World.size_alloc] at s1 hc1
  have g1 : w.heap.size < w.heap.size + 1 + 1 := by omega
  have g2 : w.heap.size + 1 < w.heap.size + 1 + 1 := by omega
  go_wp2_with fail
  refine (may_calls _ _ c g _ _ H1.out).mono ?_
  rintro e w1' ⟨b, rfl, hmay, hb1⟩
  have s1' := hb1.size
  have K1 := Lib.hid (K1.out.trans (hb1.mono K1.out.size))
  have H1 := Lib.hid (H1.out.below hb1)
  have BX1 := Lib.hid (BX1.out.keep (hb1.block _ (by omega)))
  clear hb1 hc1
  cases b
  · go_wp2
    go_ret
    exact ⟨rfl, K1.out⟩
  obtain ⟨hf, hm⟩ := hmay rfl
  have HM := Lib.hid hm
  have HF := Lib.hid hf
  have hf1 := hf.1
  have hf2 := hf.2.1
  have hn6 : g.nodes.length ≤ 1000000 := by omega
  have he6 : g.edges.length ≤ 1000000 := by omega
  clear hmay hf hm
  obtain ⟨x0, x1, x2, x3, xf⟩ := BX1.out
  go_wp2
  clear x0 x1 x2 x3 xf
  go_loopw [5, 6, 31] (fun t5 t6 p wr => ∃ k : Nat, k ≤ g.nodes.length ∧ p = .int .i64 (k : Int) ∧ t5 = .int .i64 (osum (g.nodes.take k) g.edges : Int) ∧ t6 = .int .i64 (isum (g.nodes.take k) g.edges : Int) ∧ Hid (Below w1'.heap.size w1' wr)) (fun _ _ p _ => g.nodes.length - (intOf p).toNat)
  case atStart => exact ⟨0, by omega, rfl, rfl, rfl, Below.refl _ _⟩
  case round =>
    obtain ⟨wa, rfl⟩ : ∃ wa, wa = wr := ⟨wr, rfl⟩
    obtain ⟨k, hk, rfl, rfl, rfl, hb⟩ := hrel
    have hwr := hb.out.size
    have BXa := Lib.hid (BX1.out.keep (hb.out.block _ (by omega)))
    obtain ⟨x0, x1, x2, x3, xf⟩ := BXa.out
    have KA := Lib.hid (K1.out.trans (hb.out.mono K1.out.size))
    have hol := osum_le (xs := g.nodes) hf2 k
    have hil := isum_le (xs := g.nodes) hf2 k
    by_cases hlt : k < g.nodes.length
    case neg =>
      obtain rfl : k = g.nodes.length := by omega
      have ho : osum (g.nodes.take g.nodes.length) g.edges = g.edges.length := by rw [List.take_length]; exact HM.out.outs
      have hi : isum (g.nodes.take g.nodes.length) g.edges = g.edges.length := by rw [List.take_length]; exact HM.out.ins
      rw [ho, hi]
      clear ho hi hol hil
      go_wp2
      go_ret
      exact ⟨rfl, KA.out⟩
    obtain ⟨x, hx⟩ := getElem?_of_lt hlt
    obtain ⟨bn, on, ap, dp, rfl, _, hbl, hr, z0, z1⟩ := (H1.out.below hb.out).atN hx
    have hat := at_of_mem hx
    have HNR := Lib.hid (show nearOf g x.id = (nearO g.edges x.id, nearI g.edges x.id, 0) by unfold nearOf; rw [if_neg (by omega)])
    have HX := Lib.hid hx
    clear hx hr hat
    have q1 : wa.heap.size < wa.heap.size + 1 := by omega
    have q2 : bn < wa.heap.size + 1 := by omega
    have q3 : w.heap.size + 1 < wa.heap.size := by omega
    have q4 : w.heap.size + 1 < wa.heap.size + 1 := by omega
    have HGa := Lib.hid ((H1.out.below hb.out).below (Below.heap1 wa (.cells #[.int .i64 x.id, .slice ap x.ps.length dp] 32)))
    have BXn := Lib.hid (BXa.out.keep (W' := wa.alloc (.cells #[.int .i64 x.id, .slice ap x.ps.length dp] 32)) (Below.heap_alloc _ _ _ (by omega)))
    have N0 : (wa.alloc (.cells #[.int .i64 x.id, .slice ap x.ps.length dp] 32)).cell? ⟨wa.heap.size, 0, none⟩ = some (.int .i64 x.id) := by simp [go_sem]
    have N0 := Lib.hid N0
    go_wp2_with fail
    refine (near_calls _ _ g _ _ x.id HGa.out hn6 he6).mono ?_
    rw [HNR.out]
    rintro en w2 ⟨vo, vi, rfl, hro, hri, hb2⟩
    obtain ⟨Ao, co, rfl⟩ := hro.slice
    obtain ⟨Ai, ci, rfl⟩ := hri.slice
    have s2 := hb2.size
    have HRO := Lib.hid hro
    have HRI := Lib.hid hri
    have K2a := Lib.hid ((Below.heap1 wa (.cells #[.int .i64 x.id, .slice ap x.ps.length dp] 32)).trans (hb2.mono (by simp)))
    have H2 := Lib.hid (HGa.out.below hb2)
    have BX2 := Lib.hid (BXn.out.keep (hb2.block _ (by simp; omega)))
    have N0 := Lib.hid ((hb2.cell (p := ⟨wa.heap.size, 0, none⟩) (by simp)).trans N0.out)
    have hlo := nearO_len g.edges g.edges.length x.id
    have hli := nearI_len g.edges g.edges.length x.id
    rw [List.take_length] at hlo hli
    clear hro hri hb2 HGa BXn x0 x1 x2 x3 xf z0 z1
    simp only [World.size_alloc] at s2
    go_wp2
    have KAB := Lib.hid (show w2.heap.size ≤ w2.heap.size from Nat.le_refl _)
    go_loopw [55] (fun p wr => ∃ j : Nat, j ≤ (nearO g.edges x.id).length ∧ p = .int .i64 (j : Int) ∧ Hid (Below w2.heap.size w2 wr)) (fun p _ => (nearO g.edges x.id).length - (intOf p).toNat)
    case atStart => exact ⟨0, by omega, rfl, Below.refl _ _⟩
    case round =>
      obtain ⟨wb, rfl⟩ : ∃ wb, wb = wr := ⟨wr, rfl⟩
      obtain ⟨j, hj, rfl, hbj⟩ := hrel
      have hsj := hbj.out.size
      have hcj := (bcell hbj.out).1
      have r1 : wa.heap.size < wb.heap.size := by omega
      have r2 : w.heap.size + 1 < wb.heap.size := by omega
      have BXb := Lib.hid (BX2.out.keep (hbj.out.block _ (by omega)))
      obtain ⟨x0, x1, x2, x3, xf⟩ := BXb.out
      have nb0 : wb.cell? ⟨wa.heap.size, 0, none⟩ = some (.int .i64 x.id) := (hcj _ _ (by omega)).trans N0.out
      by_cases hjl : j < (nearO g.edges x.id).length
      case neg =>
        clear x0 x1 x2 x3 xf nb0 hcj
        go_wp2
        have hbO := hbj
        clear hbj hsj r1 r2 BXb
        go_loopw [83] (fun p wr => ∃ j : Nat, j ≤ (nearI g.edges x.id).length ∧ p = .int .i64 (j : Int) ∧ Hid (Below w2.heap.size w2 wr)) (fun p _ => (nearI g.edges x.id).length - (intOf p).toNat)
        case atStart => exact ⟨0, by omega, rfl, hbO⟩
        case round =>
          obtain ⟨wb, rfl⟩ : ∃ wb, wb = wr := ⟨wr, rfl⟩
          obtain ⟨j, hj, rfl, hbj⟩ := hrel
          have hsj := hbj.out.size
          have hcj := (bcell hbj.out).1
          have r1 : wa.heap.size < wb.heap.size := by omega
          have r2 : w.heap.size + 1 < wb.heap.size := by omega
          have BXb := Lib.hid (BX2.out.keep (hbj.out.block _ (by omega)))
          obtain ⟨x0, x1, x2, x3, xf⟩ := BXb.out
          have nb0 : wb.cell? ⟨wa.heap.size, 0, none⟩ = some (.int .i64 x.id) := (hcj _ _ (by omega)).trans N0.out
          by_cases hjl : j < (nearI g.edges x.id).length
          case neg =>
            clear x0 x1 x2 x3 xf nb0 hcj
            have HBK := Lib.hid (hb.out.trans ((K2a.out.mono hwr).trans (hbj.out.mono (by omega))))
            have ho2 := osum_succ HX.out g.edges
            have hi2 := isum_succ HX.out g.edges
            have HO2 := Lib.hid ho2
            have HI2 := Lib.hid hi2
            clear ho2 hi2
            go_wp2
            go_roundw
            case rel => exact ⟨k + 1, by omega, by first | (go_num; done) | (go_num; omega), by rw [HO2.out]; first | (go_num; done) | (go_num; omega), by rw [HI2.out]; first | (go_num; done) | (go_num; omega), HBK⟩
            case measure => simp [intOf]; omega
          obtain ⟨y, hy⟩ := getElem?_of_lt hjl
          obtain ⟨by', oy, hAy, _, hbyl, y0, y1⟩ := (HRI.out.below hbj.out).atP hy
          have HMET := Lib.hid (HM.out.metI hy)
          subst hAy
          clear hy
          have r3 : wb.heap.size < wb.heap.size + 1 := by omega
          have r4 : by' < wb.heap.size + 1 := by omega
          have r5 : wa.heap.size < wb.heap.size + 1 := by omega
          have r6 : w.heap.size + 1 < wb.heap.size + 1 := by omega
          go_wp2
          go_loopw [19, 90] (fun t p wr => ∃ m : Nat, m ≤ g.edges.length ∧ p = .int .i64 (m : Int) ∧ t = .int .i64 (cntE (g.edges.take m) (⟨y.x, y.y, x.id⟩ : EdgeD) : Int) ∧ Hid (Below (wb.alloc (.cells #[.int .i64 y.x, .int .i64 y.y] 38)).heap.size (wb.alloc (.cells #[.int .i64 y.x, .int .i64 y.y] 38)) wr)) (fun _ p _ => g.edges.length - (intOf p).toNat)
          case atStart => exact ⟨0, by omega, rfl, rfl, Below.refl _ _⟩
          case round =>
            obtain ⟨wc, rfl⟩ : ∃ wc, wc = wr := ⟨wr, rfl⟩
            obtain ⟨m, hm, rfl, rfl, hbm⟩ := hrel
            have hsm := hbm.out.size
            have hcm := (bcell hbm.out).1
            simp only [World.size_alloc] at hsm hcm
            have v1 : wb.heap.size < wc.heap.size := by omega
            have v2 : wa.heap.size < wc.heap.size := by omega
            have hBC := Lib.hid (hbj.out.trans ((Below.heap1 wb (.cells #[.int .i64 y.x, .int .i64 y.y] 38)).mono hsj |>.trans (hbm.out.mono (by simp; omega))))
            by_cases hml : m < g.edges.length
            case neg =>
              obtain rfl : m = g.edges.length := by omega
              have hone : cntE (g.edges.take g.edges.length) (⟨y.x, y.y, x.id⟩ : EdgeD) = 1 := by rw [List.take_length]; exact HMET.out
              rw [hone]
              clear hone hcm
              go_wp2
              go_roundw
              case rel => exact ⟨j + 1, by omega, by first | (go_num; done) | (go_num; omega), hBC⟩
              case measure => simp [intOf]; omega
            obtain ⟨e, he⟩ := getElem?_of_lt hml
            obtain ⟨be, oe, hAe, _, hble, z0, z1, z2⟩ := (((H2.out.below hbj.out).below (Below.heap1 wb (.cells #[.int .i64 y.x, .int .i64 y.y] 38))).below hbm.out).atE he
            have hcs := cntE_succ he (⟨y.x, y.y, x.id⟩ : EdgeD)
            have hcl := cntE_le g.edges (⟨y.x, y.y, x.id⟩ : EdgeD) m
            clear he
            subst hAe
            have v3 : wc.heap.size < wc.heap.size + 1 := by omega
            have v4 : be < wc.heap.size + 1 := by omega
            have v5 : wb.heap.size < wc.heap.size + 1 := by omega
            have v6 : wa.heap.size < wc.heap.size + 1 := by omega
            have heq := fun W : World => eqlEdge W e (⟨y.x, y.y, x.id⟩ : EdgeD)
            simp only at heq
            by_cases ht : e = (⟨y.x, y.y, x.id⟩ : EdgeD)
            · rw [if_pos ht] at hcs
              rw [decide_eq_true ht] at heq
              have HCS := Lib.hid hcs
              clear hcs ht
              generalize cntE (g.edges.take m) (⟨y.x, y.y, x.id⟩ : EdgeD) = cn at *
              go_wp2
              go_roundw
              case rel => exact ⟨m + 1, by omega, by first | (go_num; done) | (go_num; omega), by rw [HCS.out]; first | (go_num; done) | (go_num; omega), Lib.hid (hbm.out.alloc (by simp; omega) _)⟩
              case measure => simp [intOf]; omega
            · rw [if_neg ht] at hcs
              rw [decide_eq_false ht] at heq
              have HCS := Lib.hid hcs
              clear hcs ht
              generalize cntE (g.edges.take m) (⟨y.x, y.y, x.id⟩ : EdgeD) = cn at *
              go_wp2
              go_roundw
              case rel => exact ⟨m + 1, by omega, by first | (go_num; done) | (go_num; omega), by rw [HCS.out]; rfl, Lib.hid (hbm.out.alloc (by simp; omega) _)⟩
              case measure => simp [intOf]; omega

      obtain ⟨y, hy⟩ := getElem?_of_lt hjl
      obtain ⟨by', oy, hAy, _, hbyl, y0, y1⟩ := (HRO.out.below hbj.out).atP hy
      have HMET := Lib.hid (HM.out.metO hy)
      subst hAy
      clear hy
      have r3 : wb.heap.size < wb.heap.size + 1 := by omega
      have r4 : by' < wb.heap.size + 1 := by omega
      have r5 : wa.heap.size < wb.heap.size + 1 := by omega
      have r6 : w.heap.size + 1 < wb.heap.size + 1 := by omega
      go_wp2
      go_loopw [14, 62] (fun t p wr => ∃ m : Nat, m ≤ g.edges.length ∧ p = .int .i64 (m : Int) ∧ t = .int .i64 (cntE (g.edges.take m) (⟨y.x, x.id, y.y⟩ : EdgeD) : Int) ∧ Hid (Below (wb.alloc (.cells #[.int .i64 y.x, .int .i64 y.y] 38)).heap.size (wb.alloc (.cells #[.int .i64 y.x, .int .i64 y.y] 38)) wr)) (fun _ p _ => g.edges.length - (intOf p).toNat)
      case atStart => exact ⟨0, by omega, rfl, rfl, Below.refl _ _⟩
      case round =>
        obtain ⟨wc, rfl⟩ : ∃ wc, wc = wr := ⟨wr, rfl⟩
        obtain ⟨m, hm, rfl, rfl, hbm⟩ := hrel
        have hsm := hbm.out.size
        have hcm := (bcell hbm.out).1
        simp only [World.size_alloc] at hsm hcm
        have v1 : wb.heap.size < wc.heap.size := by omega
        have v2 : wa.heap.size < wc.heap.size := by omega
        have hBC := Lib.hid (hbj.out.trans ((Below.heap1 wb (.cells #[.int .i64 y.x, .int .i64 y.y] 38)).mono hsj |>.trans (hbm.out.mono (by simp; omega))))
        by_cases hml : m < g.edges.length
        case neg =>
          obtain rfl : m = g.edges.length := by omega
          have hone : cntE (g.edges.take g.edges.length) (⟨y.x, x.id, y.y⟩ : EdgeD) = 1 := by rw [List.take_length]; exact HMET.out
          rw [hone]
          clear hone hcm
          go_wp2
          go_roundw
          case rel => exact ⟨j + 1, by omega, by first | (go_num; done) | (go_num; omega), hBC⟩
          case measure => simp [intOf]; omega
        obtain ⟨e, he⟩ := getElem?_of_lt hml
        obtain ⟨be, oe, hAe, _, hble, z0, z1, z2⟩ := (((H2.out.below hbj.out).below (Below.heap1 wb (.cells #[.int .i64 y.x, .int .i64 y.y] 38))).below hbm.out).atE he
        have hcs := cntE_succ he (⟨y.x, x.id, y.y⟩ : EdgeD)
        have hcl := cntE_le g.edges (⟨y.x, x.id, y.y⟩ : EdgeD) m
        clear he
        subst hAe
        have v3 : wc.heap.size < wc.heap.size + 1 := by omega
        have v4 : be < wc.heap.size + 1 := by omega
        have v5 : wb.heap.size < wc.heap.size + 1 := by omega
        have v6 : wa.heap.size < wc.heap.size + 1 := by omega
        have heq := fun W : World => eqlEdge W e (⟨y.x, x.id, y.y⟩ : EdgeD)
        simp only at heq
        by_cases ht : e = (⟨y.x, x.id, y.y⟩ : EdgeD)
        · rw [if_pos ht] at hcs
          rw [decide_eq_true ht] at heq
          have HCS := Lib.hid hcs
          clear hcs ht
          generalize cntE (g.edges.take m) (⟨y.x, x.id, y.y⟩ : EdgeD) = cn at *
          go_wp2
          go_roundw
          case rel => exact ⟨m + 1, by omega, by first | (go_num; done) | (go_num; omega), by rw [HCS.out]; first | (go_num; done) | (go_num; omega), Lib.hid (hbm.out.alloc (by simp; omega) _)⟩
          case measure => simp [intOf]; omega
        · rw [if_neg ht] at hcs
          rw [decide_eq_false ht] at heq
          have HCS := Lib.hid hcs
          clear hcs ht
          generalize cntE (g.edges.take m) (⟨y.x, x.id, y.y⟩ : EdgeD) = cn at *
          go_wp2
          go_roundw
          case rel => exact ⟨m + 1, by omega, by first | (go_num; done) | (go_num; omega), by rw [HCS.out]; rfl, Lib.hid (hbm.out.alloc (by simp; omega) _)⟩
          case measure => simp [intOf]; omega
end Go.Proofs.Ytpehmmdbjakkpaa
