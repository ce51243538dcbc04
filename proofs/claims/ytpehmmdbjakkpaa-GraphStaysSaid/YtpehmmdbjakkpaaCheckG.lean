/- graph.Check: 0 just if a graph may be. -/
import Derived.Test.YtpehmmdbjakkpaaPlaceG
namespace Go.Proofs.Ytpehmmdbjakkpaa
open Go.RowKit Go.Shelf
set_option linter.unusedSimpArgs false
set_option linter.unusedVariables false
theorem nodesOk_iff {g : GraphD} : NodesOk g g.nodes.length ↔ (∀ (i : Nat) (p q : NodeD), g.nodes[i]? = some p → g.nodes[i + 1]? = some q → p.id < q.id) ∧ (∀ x ∈ g.nodes, 1 ≤ x.id ∧ x.id < g.nn) ∧ ∀ x ∈ g.nodes, Rises x.ps x.ps.length := by
  have lt : ∀ {i : Nat} {x : NodeD}, g.nodes[i]? = some x → i < g.nodes.length := fun h => (List.getElem?_eq_some_iff.1 h).1
  constructor
  · intro h
    have h1 : ∀ (i : Nat) (x : NodeD), g.nodes[i]? = some x → 1 ≤ x.id := by
      intro i
      induction i with
      | zero =>
        intro x hx
        have h2 : (0 : Int) < x.id := (h 0 x (lt hx) hx).1
        omega
      | succ i ih =>
        intro x hx
        obtain ⟨y, hy⟩ := getElem?_of_lt (show i < g.nodes.length by have := lt hx; omega)
        have := (h (i + 1) x (lt hx) hx).1
        rw [lastN_succ hy] at this
        have := ih y hy
        omega
    refine ⟨fun i p q hp hq => ?_, fun x hx => ?_, fun x hx => ?_⟩
    · have := (h (i + 1) q (lt hq) hq).1
      rwa [lastN_succ hp] at this
    · obtain ⟨i, hi⟩ := List.mem_iff_getElem?.1 hx
      exact ⟨h1 i x hi, (h i x (lt hi) hi).2.1⟩
    · obtain ⟨i, hi⟩ := List.mem_iff_getElem?.1 hx
      exact (h i x (lt hi) hi).2.2
  · rintro ⟨h1, h2, h3⟩ i x _ hx
    refine ⟨?_, (h2 x (List.mem_of_getElem? hx)).2, h3 x (List.mem_of_getElem? hx)⟩
    cases i with
    | zero =>
      have := (h2 x (List.mem_of_getElem? hx)).1
      show (0 : Int) < x.id
      omega
    | succ i =>
      obtain ⟨y, hy⟩ := getElem?_of_lt (show i < g.nodes.length by have := lt hx; omega)
      rw [lastN_succ hy]
      exact h1 i y x hy hx
theorem edgesOk_iff {g : GraphD} : EdgesOk g g.edges.length ↔ RisesE g.edges g.edges.length ∧ (∀ x ∈ g.edges, 1 ≤ x.id ∧ x.id < g.ne) ∧ ∀ x ∈ g.edges, lostE g x = false := by
  have lt : ∀ {i : Nat} {x : EdgeD}, g.edges[i]? = some x → i < g.edges.length := fun h => (List.getElem?_eq_some_iff.1 h).1
  constructor
  · intro h
    have h1 : ∀ (i : Nat) (x : EdgeD), g.edges[i]? = some x → 1 ≤ x.id := by
      intro i
      induction i with
      | zero =>
        intro x hx
        have h2 : (0 : Int) < x.id := (h 0 x (lt hx) hx).1
        omega
      | succ i ih =>
        intro x hx
        obtain ⟨y, hy⟩ := getElem?_of_lt (show i < g.edges.length by have := lt hx; omega)
        have := (h (i + 1) x (lt hx) hx).1
        rw [lastE_succ hy] at this
        have := ih y hy
        omega
    refine ⟨fun i p q _ hp hq => ?_, fun x hx => ?_, fun x hx => ?_⟩
    · have := (h (i + 1) q (lt hq) hq).1
      rwa [lastE_succ hp] at this
    · obtain ⟨i, hi⟩ := List.mem_iff_getElem?.1 hx
      exact ⟨h1 i x hi, (h i x (lt hi) hi).2.1⟩
    · obtain ⟨i, hi⟩ := List.mem_iff_getElem?.1 hx
      have := (h i x (lt hi) hi).2.2
      unfold lostE
      rw [decide_eq_false (by omega), decide_eq_false (by omega)]
      rfl
  · rintro ⟨h1, h2, h3⟩ i x _ hx
    have h4 := h3 x (List.mem_of_getElem? hx)
    unfold lostE at h4
    simp only [Bool.or_eq_false_iff, decide_eq_false_iff_not] at h4
    refine ⟨?_, (h2 x (List.mem_of_getElem? hx)).2, by omega, by omega⟩
    cases i with
    | zero =>
      have := (h2 x (List.mem_of_getElem? hx)).1
      show (0 : Int) < x.id
      omega
    | succ i =>
      obtain ⟨y, hy⟩ := getElem?_of_lt (show i < g.edges.length by have := lt hx; omega)
      rw [lastE_succ hy]
      exact h1 i y x (lt hx) hy hx
theorem risesN_nodes {w : World} {S : Nat → Prop} {nvs : List NV} {xs : List NodeD} (h : NVs w S nvs xs) : RisesN nvs nvs.length ↔ ∀ (i : Nat) (p q : NodeD), xs[i]? = some p → xs[i + 1]? = some q → p.id < q.id := by
  constructor
  · intro hr i p q hp hq
    obtain ⟨u, hu, hid, _⟩ := h.at hp
    obtain ⟨v, hv, hid2, _⟩ := h.at hq
    have := hr i u v (List.getElem?_eq_some_iff.1 hv).1 hu hv
    omega
  · intro hr i u v hi hu hv
    obtain ⟨p, hp⟩ := getElem?_of_lt (show i < xs.length by rw [← h.len]; omega)
    obtain ⟨q, hq⟩ := getElem?_of_lt (show i + 1 < xs.length by rw [← h.len]; omega)
    have h1 := (h.each i u p hu hp).1
    have h2 := (h.each (i + 1) v q hv hq).1
    have := hr i p q hp hq
    omega
theorem ids_nodes {w : World} {S : Nat → Prop} {nvs : List NV} {xs : List NodeD} (h : NVs w S nvs xs) (n : Int) : (∀ x ∈ nvs, 1 ≤ x.id ∧ x.id < n) ↔ ∀ x ∈ xs, 1 ≤ x.id ∧ x.id < n := by
  constructor
  · intro hr x hx
    obtain ⟨i, hi⟩ := List.mem_iff_getElem?.1 hx
    obtain ⟨u, hu, hid, _⟩ := h.at hi
    rw [← hid]
    exact hr u (List.mem_of_getElem? hu)
  · intro hr u hu
    obtain ⟨i, hi⟩ := List.mem_iff_getElem?.1 hu
    obtain ⟨x, hx⟩ := getElem?_of_lt (show i < xs.length by rw [← h.len]; exact (List.getElem?_eq_some_iff.1 hi).1)
    rw [(h.each i u x hi hx).1]
    exact hr x (List.mem_of_getElem? hx)
def GraphD.mid (g : GraphD) : Prop := g.nodes.length ≤ 1000 ∧ g.edges.length ≤ 1000 ∧ ∀ x ∈ g.nodes, x.ps.length ≤ 1000
theorem GraphD.few.mid {g : GraphD} (h : g.few) : g.mid := ⟨by have := h.1; omega, by have := h.2.1; omega, fun x hx => by have := h.2.2 x hx; omega⟩
theorem psum_mid : ∀ {xs : List NodeD}, (∀ x ∈ xs, x.ps.length ≤ 1000) → psum xs ≤ 1000 * xs.length := by
  intro xs
  induction xs with
  | nil => intro _; simp [psum]
  | cons x xs ih =>
    intro h
    have h1 := ih fun y hy => h y (List.mem_cons_of_mem _ hy)
    have h2 := h x (List.mem_cons_self)
    simp only [psum, List.map_cons, List.sum_cons, List.length_cons] at h1 ⊢
    omega
def CheckPost (w : World) (c : CfgD) (g : GraphD) (e : Ending) (w' : World) : Prop := ∃ x : Int, e = .returned (.int .i64 x) ∧ ((x = 0 ∧ MayG c g) ∨ (x = 1 ∧ ¬ MayG c g)) ∧ Below w.heap.size w w'
set_option maxRecDepth 100000 in
set_option maxHeartbeats 8000000 in
theorem check_calls (w : World) (S : Nat → Prop) (c : CfgD) (g : GraphD) (vn ve : Value) (h : Gr w S g vn ve) (hm : g.mid) : Calls Try.prog 46 #[c.val, .agg #[vn, ve, .int .i64 g.nn, .int .i64 g.ne]] w (CheckPost w c g) := by
  obtain ⟨⟨A1, c1, rfl⟩, ⟨A2, c2, rfl⟩⟩ := h.slices
  have H := Lib.hid h
  have HM := Lib.hid hm
  have hm1 := hm.1
  have hm2 := hm.2.1
  obtain ⟨W0, hW⟩ : ∃ W0, W0 = (w.alloc (.cells #[.int .i64 c.nodes, .int .i64 c.edges, .int .i64 c.props, .int .i64 c.ids, .int .i64 c.eids] 23)).alloc (.cells #[.slice A1 g.nodes.length c1, .slice A2 g.edges.length c2, .int .i64 g.nn, .int .i64 g.ne] 27) := ⟨_, rfl⟩
  have KW := Lib.hid (show Below w.heap.size w W0 by rw [hW]; exact ((Below.refl w.heap.size w).alloc (Nat.le_refl _) _).alloc (by simp) _)
  have BX := Lib.hid (show Box4 W0 (w.heap.size + 1) (.slice A1 g.nodes.length c1) (.slice A2 g.edges.length c2) (.int .i64 g.nn) (.int .i64 g.ne) by
    rw [hW]
    have := Box4.made (w.alloc (.cells #[.int .i64 c.nodes, .int .i64 c.edges, .int .i64 c.props, .int .i64 c.ids, .int .i64 c.eids] 23)) 27 (.slice A1 g.nodes.length c1) (.slice A2 g.edges.length c2) (.int .i64 g.nn) (.int .i64 g.ne)
    rw [World.size_alloc] at this
    exact this)
  have CF := Lib.hid (show W0.heap[w.heap.size]? = some (.cells #[.int .i64 c.nodes, .int .i64 c.edges, .int .i64 c.props, .int .i64 c.ids, .int .i64 c.eids] 23 (0, 0)) by rw [hW]; exact (Below.heap_alloc _ _ _ (by simp)).trans (heap_alloc_new w _))
  have s0 : W0.heap.size = w.heap.size + 1 + 1 := by rw [hW]; simp
  have HW := Lib.hid hW
  clear h hm hW
  unfold CfgD.val
  go_enter Try.func46, Try.ntmps46
  go_wp2_with fail
  rw [← HW.out]
  refine (place_calls W0 c).mono ?_
  rintro e w1 ⟨x, rfl, hx, hb⟩
  have s1 := hb.size
  have K1 := Lib.hid (KW.out.trans (hb.mono KW.out.size))
  have BX1 := Lib.hid (BX.out.keep (hb.block _ (by omega)))
  have CF1 := Lib.hid ((hb.block w.heap.size (by omega)).trans CF.out)
  clear hb KW BX CF HW
  have g1 : w.heap.size < w1.heap.size := by omega
  have g2 : w.heap.size + 1 < w1.heap.size := by omega
  obtain ⟨x0, x1, x2, x3, xf⟩ := BX1.out
  have cf := CF1.out
  have d0 : w1.cell? ⟨w.heap.size, 0, none⟩ = some (.int .i64 c.nodes) := by unfold World.cell?; rw [cf]; rfl
  have d1 : w1.cell? ⟨w.heap.size, 1, none⟩ = some (.int .i64 c.edges) := by unfold World.cell?; rw [cf]; rfl
  have d2 : w1.cell? ⟨w.heap.size, 2, none⟩ = some (.int .i64 c.props) := by unfold World.cell?; rw [cf]; rfl
  have d3 : w1.cell? ⟨w.heap.size, 3, none⟩ = some (.int .i64 c.ids) := by unfold World.cell?; rw [cf]; rfl
  have d4 : w1.cell? ⟨w.heap.size, 4, none⟩ = some (.int .i64 c.eids) := by unfold World.cell?; rw [cf]; rfl
  clear cf
  rcases hx with ⟨rfl, hok⟩ | ⟨rfl, hok⟩
  case inr =>
    have HN := Lib.hid (show ¬ MayG c g from fun h => hok h.head.cfg)
    clear hok
    go_wp2
    refine bodyPost_ret (v := .int .i64 1) (by simp [results, Try.results46, go_sem]; try rfl) rfl ⟨1, rfl, .inr ⟨rfl, HN.out⟩, K1.out⟩
  have HOK := Lib.hid hok
  have hi1 := hok.2.2.2.1
  have hi2 := hok.2.2.2.2
  clear hok
  obtain ⟨m, hm, hmin⟩ := min2' g.nn g.ne
  have hmin := hmin Try.prog
  have hw1 : IntKind.i64.wrap (c.ids + 1) = c.ids + 1 := by rw [IntKind.wrap_i64]; omega
  have hw2 : IntKind.i64.wrap (c.eids + 1) = c.eids + 1 := by rw [IntKind.wrap_i64]; omega
  by_cases h1 : m < 1
  · have HN := Lib.hid (show ¬ MayG c g from fun h => by have := h.head.nn; have := h.head.ne; omega)
    have hd : decide (m < 1) = true := decide_eq_true h1
    clear h1 hm
    go_wp2
    refine bodyPost_ret (v := .int .i64 1) (by simp [results, Try.results46, go_sem]; try rfl) rfl ⟨1, rfl, .inr ⟨rfl, HN.out⟩, K1.out⟩
  have hd1 : decide (m < 1) = false := decide_eq_false h1
  by_cases h2 : c.ids + 1 < g.nn
  · have HN := Lib.hid (show ¬ MayG c g from fun h => by have := h.head.nn; omega)
    have hd2 : decide (c.ids + 1 < g.nn) = true := decide_eq_true h2
    clear hm
    go_wp2
    refine bodyPost_ret (v := .int .i64 1) (by simp [results, Try.results46, go_sem]; try rfl) rfl ⟨1, rfl, .inr ⟨rfl, HN.out⟩, K1.out⟩
  have hd2 : decide (c.ids + 1 < g.nn) = false := decide_eq_false h2
  by_cases h3 : c.eids + 1 < g.ne
  · have HN := Lib.hid (show ¬ MayG c g from fun h => by have := h.head.ne; omega)
    have hd3 : decide (c.eids + 1 < g.ne) = true := decide_eq_true h3
    clear hm
    go_wp2
    refine bodyPost_ret (v := .int .i64 1) (by simp [results, Try.results46, go_sem]; try rfl) rfl ⟨1, rfl, .inr ⟨rfl, HN.out⟩, K1.out⟩
  have hd3 : decide (c.eids + 1 < g.ne) = false := decide_eq_false h3
  have HH := Lib.hid (show (1 ≤ g.nn ∧ g.nn ≤ c.ids + 1) ∧ (1 ≤ g.ne ∧ g.ne ≤ c.eids + 1) by omega)
  clear hm
  go_wp2
  clear x0 x1 x2 x3 xf d0 d1 d2 d3 d4 hd1 hd2 hd3
  have H1 := Lib.hid (H.out.below K1.out)
  go_loopw [5, 39] (fun t p wr => ∃ k : Nat, k ≤ g.nodes.length ∧ p = .int .i64 (k : Int) ∧ t = .int .i64 (psum (g.nodes.take k) : Int) ∧ Hid (∀ (i : Nat) (x : NodeD), i < k → g.nodes[i]? = some x → Rises x.ps x.ps.length) ∧ Hid (Below w1.heap.size w1 wr)) (fun _ p _ => g.nodes.length - (intOf p).toNat)
  case atStart => exact ⟨0, by omega, rfl, rfl, (fun i x h => by omega), Below.refl _ _⟩
  case round =>
    obtain ⟨wa, rfl⟩ : ∃ wa, wa = wr := ⟨wr, rfl⟩
    obtain ⟨k, hk, rfl, rfl, hri, hb⟩ := hrel
    have hwa := hb.out.size
    have KA := Lib.hid (K1.out.trans (hb.out.mono K1.out.size))
    have BXa := Lib.hid (BX1.out.keep (hb.out.block _ g2))
    have HGa := Lib.hid (H1.out.below hb.out)
    have g3 : w.heap.size + 1 < wa.heap.size := by omega
    have CFa := Lib.hid ((hb.out.block w.heap.size g1).trans CF1.out)
    have hps : psum (g.nodes.take k) ≤ 1000 * 1000 := by
      have h1 := psum_mid (xs := g.nodes.take k) fun x hx => HM.out.2.2 x (List.mem_of_mem_take hx)
      have h2 : (g.nodes.take k).length ≤ 1000 := by rw [List.length_take]; omega
      have h3 : 1000 * (g.nodes.take k).length ≤ 1000 * 1000 := Nat.mul_le_mul_left _ h2
      omega
    by_cases hlt : k < g.nodes.length
    case neg =>
      obtain rfl : k = g.nodes.length := by omega
      have HRA := Lib.hid (show ∀ x ∈ g.nodes, Rises x.ps x.ps.length from fun x hx => by
        obtain ⟨i, hi⟩ := List.mem_iff_getElem?.1 hx
        exact hri.out i x (List.getElem?_eq_some_iff.1 hi).1 hi)
      rw [List.take_length] at hps ⊢
      obtain ⟨⟨nvs, hrow, hnv⟩, hre⟩ := HGa.out
      have HRW := Lib.hid hrow
      have HNV := Lib.hid hnv
      have HRE := Lib.hid hre
      have hnl : nvs.length ≤ 1000000 := by rw [hnv.len]; omega
      obtain ⟨ps0, hps0⟩ : ∃ p, p = psum g.nodes := ⟨_, rfl⟩
      have HPS0 := Lib.hid hps0
      rw [← hps0] at hps ⊢
      clear hrow hnv hre hps0
      obtain ⟨x0, x1, x2, x3, xf⟩ := BXa.out
      go_wp2_with fail
      refine (countedN_calls wa S _ nvs g.nn HRW.out hnl).mono ?_
      rintro e w3 ⟨b, rfl, hbb, hb3⟩
      have s3 := hb3.size
      have K3 := Lib.hid (KA.out.trans (hb3.mono KA.out.size))
      have BX3 := Lib.hid (BXa.out.keep (hb3.block _ g3))
      have HRE3 := Lib.hid (HRE.out.below hb3)
      have CF3 := Lib.hid ((hb3.block w.heap.size (by omega)).trans CFa.out)
      have HG3 := Lib.hid (HGa.out.below hb3)
      have HB := Lib.hid hbb
      clear hb3 hbb x0 x1 x2 x3 xf
      obtain ⟨x0, x1, x2, x3, xf⟩ := BX3.out
      have g4 : w.heap.size + 1 < w3.heap.size := by omega
      have g5 : w.heap.size < w3.heap.size := by omega
      cases b
      · have HN := Lib.hid (show ¬ MayG c g from fun h => by
          have h9 := nodesOk_iff.1 h.nodes
          have := HB.out.2 ⟨(risesN_nodes HNV.out).2 h9.1, (ids_nodes HNV.out g.nn).2 h9.2.1⟩
          cases this)
        go_wp2
        refine bodyPost_ret (v := .int .i64 1) (by simp [results, Try.results46, go_sem]; try rfl) rfl ⟨1, rfl, .inr ⟨rfl, HN.out⟩, K3.out⟩
      have HNO := Lib.hid (show NodesOk g g.nodes.length from nodesOk_iff.2 ⟨(risesN_nodes HNV.out).1 (HB.out.1 rfl).1, (ids_nodes HNV.out g.nn).1 (HB.out.1 rfl).2, HRA.out⟩)
      go_wp2_with fail
      refine (countedE_calls w3 S _ g.edges g.ne HRE3.out (by omega)).mono ?_
      rintro e w4 ⟨b, rfl, hbb, hb4⟩
      have s4 := hb4.size
      have K4 := Lib.hid (K3.out.trans (hb4.mono K3.out.size))
      have BX4 := Lib.hid (BX3.out.keep (hb4.block _ g4))
      have HG4 := Lib.hid (HG3.out.below hb4)
      have HRE4 := Lib.hid (HRE3.out.below hb4)
      have CF4 := Lib.hid ((hb4.block w.heap.size (by omega)).trans CF3.out)
      have HB := Lib.hid hbb
      clear hb4 hbb x0 x1 x2 x3 xf
      cases b
      · have HN := Lib.hid (show ¬ MayG c g from fun h => by
          have h9 := edgesOk_iff.1 h.edges
          have := HB.out.2 ⟨h9.1, h9.2.1⟩
          cases this)
        go_wp2
        refine bodyPost_ret (v := .int .i64 1) (by simp [results, Try.results46, go_sem]; try rfl) rfl ⟨1, rfl, .inr ⟨rfl, HN.out⟩, K4.out⟩
      have HEO := Lib.hid (HB.out.1 rfl)
      have g6 : w.heap.size + 1 < w4.heap.size := by omega
      have g7 : w.heap.size < w4.heap.size := by omega
      have cf := CF4.out
      have d0 : w4.cell? ⟨w.heap.size, 0, none⟩ = some (.int .i64 c.nodes) := by unfold World.cell?; rw [cf]; rfl
      have d1 : w4.cell? ⟨w.heap.size, 1, none⟩ = some (.int .i64 c.edges) := by unfold World.cell?; rw [cf]; rfl
      have d2 : w4.cell? ⟨w.heap.size, 2, none⟩ = some (.int .i64 c.props) := by unfold World.cell?; rw [cf]; rfl
      clear cf
      obtain ⟨x0, x1, x2, x3, xf⟩ := BX4.out
      by_cases n1 : c.nodes < (g.nodes.length : Int)
      · have HN := Lib.hid (show ¬ MayG c g from fun h => by have := h.head.ln; omega)
        have hd : decide (c.nodes < (g.nodes.length : Int)) = true := decide_eq_true n1
        clear n1
        go_wp2
        refine bodyPost_ret (v := .int .i64 1) (by simp [results, Try.results46, go_sem]; try rfl) rfl ⟨1, rfl, .inr ⟨rfl, HN.out⟩, K4.out⟩
      have hd1 : decide (c.nodes < (g.nodes.length : Int)) = false := decide_eq_false n1
      by_cases n2 : c.edges < (g.edges.length : Int)
      · have HN := Lib.hid (show ¬ MayG c g from fun h => by have := h.head.le; omega)
        have hd : decide (c.edges < (g.edges.length : Int)) = true := decide_eq_true n2
        clear n2
        go_wp2
        refine bodyPost_ret (v := .int .i64 1) (by simp [results, Try.results46, go_sem]; try rfl) rfl ⟨1, rfl, .inr ⟨rfl, HN.out⟩, K4.out⟩
      have hd2 : decide (c.edges < (g.edges.length : Int)) = false := decide_eq_false n2
      by_cases n3 : c.props < (ps0 : Int)
      · have HN := Lib.hid (show ¬ MayG c g from fun h => by have := h.props; rw [← HPS0.out] at this; omega)
        have hd : decide (c.props < (ps0 : Int)) = true := decide_eq_true n3
        clear n3
        go_wp2
        refine bodyPost_ret (v := .int .i64 1) (by simp [results, Try.results46, go_sem]; try rfl) rfl ⟨1, rfl, .inr ⟨rfl, HN.out⟩, K4.out⟩
      have hd3 : decide (c.props < (ps0 : Int)) = false := decide_eq_false n3
      go_wp2_with fail
      refine (containsE_calls w4 S (fun k => S k ∨ k = w.heap.size + 1) _ g.edges _ _ (lostE g) lost_enters (fun W x hK => ?_) HRE4.out (by omega)).mono ?_
      · refine lost_calls W S g _ _ x (w.heap.size + 1) (by have := hK.1; omega) (BX4.out.keep (hK.2 _ (.inr rfl) g6)) (HG4.out.move fun k hk hl => hK.2 k (.inl hk) hl) (by omega)
      rintro e w5 ⟨b, rfl, hbb, hb5⟩
      have K5 := Lib.hid (K4.out.trans (hb5.mono K4.out.size))
      have HB5 := Lib.hid hbb
      clear hb5 hbb x0 x1 x2 x3 xf d0 d1 d2
      cases b
      · have HY := Lib.hid (show MayG c g from ⟨⟨HOK.out, HH.out.1, HH.out.2, by omega, by omega⟩, HNO.out, edgesOk_iff.2 ⟨HEO.out.1, HEO.out.2, fun x hx => by
          cases hq : lostE g x
          · rfl
          · have := HB5.out.2 ⟨x, hx, hq⟩
            cases this⟩, by rw [← HPS0.out]; omega⟩)
        go_wp2
        refine bodyPost_ret (v := .int .i64 0) (by simp [results, Try.results46, go_sem]; try rfl) rfl ⟨0, rfl, .inl ⟨rfl, HY.out⟩, K5.out⟩
      · have HN := Lib.hid (show ¬ MayG c g from fun h => by
          obtain ⟨x, hx, hq⟩ := HB5.out.1 rfl
          rw [(edgesOk_iff.1 h.edges).2.2 x hx] at hq
          cases hq)
        go_wp2
        refine bodyPost_ret (v := .int .i64 1) (by simp [results, Try.results46, go_sem]; try rfl) rfl ⟨1, rfl, .inr ⟨rfl, HN.out⟩, K5.out⟩
    obtain ⟨x, hx⟩ := getElem?_of_lt hlt
    obtain ⟨bn, on, ap, dp, rfl, _, hbl, hr, z0, z1⟩ := HGa.out.atN hx
    have hpx := HM.out.2.2 x (List.mem_of_getElem? hx)
    have HX := Lib.hid hx
    have HPS := Lib.hid (psum_succ hx)
    have KP := Lib.hid (Below.heap1 wa (.cells #[.int .i64 x.id, .slice ap x.ps.length dp] 32))
    have HRP := Lib.hid (hr.below KP.out)
    clear hx hr
    have q1 : wa.heap.size < wa.heap.size + 1 := by omega
    have q2 : bn < wa.heap.size + 1 := by omega
    generalize hps0 : psum (g.nodes.take k) = ps0 at *
    have HPS0 := Lib.hid hps0
    clear hps0
    go_wp2_with fail
    refine (risesP_calls _ S _ x.ps HRP.out (by omega)).mono ?_
    rintro e w2 ⟨b, rfl, hbb, hb2⟩
    have s2 := hb2.size
    have K2 := Lib.hid (hb.out.trans ((KP.out.trans (hb2.mono (by simp))).mono hwa))
    have HB := Lib.hid hbb
    clear hb2 hbb z0 z1
    cases b
    · have HN := Lib.hid (show ¬ MayG c g from fun h => by
        have h9 := (nodesOk_iff.1 h.nodes).2.2 x (List.mem_of_getElem? HX.out)
        have := HB.out.2 h9
        cases this)
      have KE := Lib.hid (K1.out.trans (K2.out.mono K1.out.size))
      go_wp2
      refine bodyPost_ret (v := .int .i64 1) (by simp [results, Try.results46, go_sem]; try rfl) rfl ⟨1, rfl, .inr ⟨rfl, HN.out⟩, KE.out⟩
    · have HRI := Lib.hid (show ∀ (i : Nat) (y : NodeD), i < k + 1 → g.nodes[i]? = some y → Rises y.ps y.ps.length from fun i y hi hy => by
        rcases Nat.lt_or_ge i k with h3 | h3
        · exact hri.out i y h3 hy
        · obtain rfl : i = k := by omega
          rw [HX.out] at hy
          injection hy with hy
          subst hy
          exact HB.out.1 rfl)
      go_wp2
      go_roundw
      case rel => exact ⟨k + 1, by omega, by first | (go_num; done) | (go_num; omega), by rw [HPS.out]; first | (go_num; done) | (go_num; omega), HRI, K2⟩
      case measure => simp [intOf]; omega
end Go.Proofs.Ytpehmmdbjakkpaa
