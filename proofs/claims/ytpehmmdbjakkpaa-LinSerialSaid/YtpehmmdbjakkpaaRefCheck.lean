/- The reference's check of a graph: what it lets by. -/
import Derived.Test.YtpehmmdbjakkpaaLiveM
import Derived.Test.YtpehmmdbjakkpaaLibM
namespace Go.Proofs.Ytpehmmdbjakkpaa
open Go.RowKit Go.Shelf
set_option linter.unusedSimpArgs false
set_option linter.unusedVariables false
def lastN (xs : List NodeD) : Nat → Int
  | 0 => 0
  | k + 1 => match xs[k]? with
    | some x => x.id
    | none => 0
def lastE (xs : List EdgeD) : Nat → Int
  | 0 => 0
  | k + 1 => match xs[k]? with
    | some x => x.id
    | none => 0
theorem lastN_succ {xs : List NodeD} {k : Nat} {x : NodeD} (h : xs[k]? = some x) : lastN xs (k + 1) = x.id := by simp [lastN, h]
theorem lastE_succ {xs : List EdgeD} {k : Nat} {x : EdgeD} (h : xs[k]? = some x) : lastE xs (k + 1) = x.id := by simp [lastE, h]
def psum (xs : List NodeD) : Nat := (xs.map fun x => x.ps.length).sum
theorem psum_succ {xs : List NodeD} {k : Nat} {x : NodeD} (h : xs[k]? = some x) : psum (xs.take (k + 1)) = psum (xs.take k) + x.ps.length := by
  unfold psum
  rw [List.take_add_one, h]
  simp
theorem psum_le {xs : List NodeD} (h : ∀ x ∈ xs, x.ps.length ≤ 100) (k : Nat) : psum (xs.take k) ≤ 100 * k := by
  induction k with
  | zero => simp [psum]
  | succ k ih =>
    cases hx : xs[k]? with
    | none =>
      have h1 : xs.take (k + 1) = xs.take k := by rw [List.take_add_one, hx]; simp
      rw [h1]
      omega
    | some x =>
      rw [psum_succ hx]
      have := h x (List.mem_of_getElem? hx)
      omega
/-- What stands of its head. -/
structure Head (c : CfgD) (g : GraphD) : Prop where
  cfg : c.ok
  nn : 1 ≤ g.nn ∧ g.nn ≤ c.ids + 1
  ne : 1 ≤ g.ne ∧ g.ne ≤ c.eids + 1
  ln : (g.nodes.length : Int) ≤ c.nodes
  le : (g.edges.length : Int) ≤ c.edges
def Rises (ps : List P2) (m : Nat) : Prop := ∀ (i : Nat) (p q : P2), i + 1 < m → ps[i]? = some p → ps[i + 1]? = some q → p.x < q.x
def NodesOk (g : GraphD) (k : Nat) : Prop := ∀ (i : Nat) (x : NodeD), i < k → g.nodes[i]? = some x → lastN g.nodes i < x.id ∧ x.id < g.nn ∧ Rises x.ps x.ps.length
def EdgesOk (g : GraphD) (k : Nat) : Prop := ∀ (i : Nat) (x : EdgeD), i < k → g.edges[i]? = some x → lastE g.edges i < x.id ∧ x.id < g.ne ∧ 0 ≤ atOf g.nodes x.frm ∧ 0 ≤ atOf g.nodes x.to
/-- A graph that may be. -/
structure MayG (c : CfgD) (g : GraphD) : Prop where
  head : Head c g
  nodes : NodesOk g g.nodes.length
  edges : EdgesOk g g.edges.length
  props : (psum g.nodes : Int) ≤ c.props
set_option maxRecDepth 100000 in
set_option maxHeartbeats 8000000 in
theorem refCheck_calls (w : World) (S : Nat → Prop) (c : CfgD) (g : GraphD) (vn ve : Value) (h : Gr w S g vn ve) (hf : g.few) : Calls Try.prog 47 #[c.val, .agg #[vn, ve, .int .i64 g.nn, .int .i64 g.ne]] w fun e w' => ∃ x : Int, e = .returned (.int .i64 x) ∧ (x = 0 → MayG c g) ∧ Below w.heap.size w w' := by
  obtain ⟨⟨A1, c1, rfl⟩, ⟨A2, c2, rfl⟩⟩ := h.slices
  have H := Lib.hid h
  have HF := Lib.hid hf
  have hf1 := hf.1
  have hf2 := hf.2.1
  have BX := Lib.hid (Box4.made (w.alloc (.cells #[.int .i64 c.nodes, .int .i64 c.edges, .int .i64 c.props, .int .i64 c.ids, .int .i64 c.eids] 23)) 27 (.slice A1 g.nodes.length c1) (.slice A2 g.edges.length c2) (.int .i64 g.nn) (.int .i64 g.ne))
  clear h hf
  have hcv : (⟨c.nodes, c.edges, c.props, c.ids, c.eids⟩ : CfgD) = c := rfl
  have hva : Value.agg #[.int .i64 c.nodes, .int .i64 c.edges, .int .i64 c.props, .int .i64 c.ids, .int .i64 c.eids] = c.val := rfl
  unfold CfgD.val
  clear hva hcv
  go_enter Try.func47, Try.ntmps47
  go_wp2_with fail
  refine (ref03_calls _ c).mono ?_
  rintro e w1 ⟨x, rfl, hx, hb1⟩
  rename_i Kr ar Kl al
  have KW := Lib.hid (((Below.refl w.heap.size w).alloc (Nat.le_refl _) (.cells #[.int .i64 c.nodes, .int .i64 c.edges, .int .i64 c.props, .int .i64 c.ids, .int .i64 c.eids] 23)).alloc (by simp) (.cells #[.slice A1 g.nodes.length c1, .slice A2 g.edges.length c2, .int .i64 g.nn, .int .i64 g.ne] 27))
  have s1 := hb1.size
  have K1 := Lib.hid (KW.out.trans (hb1.mono (by simp; omega)))
  have H1 := Lib.hid (H.out.below K1.out)
  have BX1 := Lib.hid ((by simpa using BX.out : Box4 _ (w.heap.size + 1) _ _ _ _).keep (hb1.block (w.heap.size + 1) (by simp)))
  have C := Lib.hid (show ∀ o, w1.cell? ⟨w.heap.size, o, none⟩ = ((w.alloc (.cells #[.int .i64 c.nodes, .int .i64 c.edges, .int .i64 c.props, .int .i64 c.ids, .int .i64 c.eids] 23)).alloc (.cells #[.slice A1 g.nodes.length c1, .slice A2 g.edges.length c2, .int .i64 g.nn, .int .i64 g.ne] 27)).cell? ⟨w.heap.size, o, none⟩ from fun o => hb1.cell (p := ⟨w.heap.size, o, none⟩) (by simp; omega))
  have C0 : w1.cell? ⟨w.heap.size, 0, none⟩ = some (.int .i64 c.nodes) := (C.out 0).trans (by simp [go_sem])
  have C1 : w1.cell? ⟨w.heap.size, 1, none⟩ = some (.int .i64 c.edges) := (C.out 1).trans (by simp [go_sem])
  have C2 : w1.cell? ⟨w.heap.size, 2, none⟩ = some (.int .i64 c.props) := (C.out 2).trans (by simp [go_sem])
  have C3 : w1.cell? ⟨w.heap.size, 3, none⟩ = some (.int .i64 c.ids) := (C.out 3).trans (by simp [go_sem])
  have C4 : w1.cell? ⟨w.heap.size, 4, none⟩ = some (.int .i64 c.eids) := (C.out 4).trans (by simp [go_sem])
  clear hb1 KW BX C
  simp only [World.size_alloc] at s1
  have g1 : w.heap.size < w1.heap.size := by omega
  have g2 : w.heap.size + 1 < w1.heap.size := by omega
  obtain ⟨x0, x1, x2, x3, xf⟩ := BX1.out
  have CUT0 : ∀ (b : Bool) (u13 u14 u15 u16 u17 u18 u19 u20 u21 u22 u23 u24 u25 u26 u27 u28 u29 u30 u31 u32 u33 u34 u35 u36 u37 u38 u39 u40 u41 u42 u43 u44 u45 u46 u47 u48 u49 u50 u51 u52 u53 u54 u55 u56 u57 : Value), (b = true → Head c g) → Kr { tmps := #[.agg #[.int .i64 c.nodes, .int .i64 c.edges, .int .i64 c.props, .int .i64 c.ids, .int .i64 c.eids], .agg #[.slice A1 g.nodes.length c1, .slice A2 g.edges.length c2, .int .i64 g.nn, .int .i64 g.ne], .pointer (some ⟨w.heap.size, 0, none⟩), .pointer (some ⟨w.heap.size + 1, 0, none⟩), .int .i64 0, .bool b, undef, undef, undef, undef, undef, undef, undef, u13, u14, u15, u16, u17, u18, u19, u20, u21, u22, u23, u24, u25, u26, u27, u28, u29, u30, u31, u32, u33, u34, u35, u36, u37, u38, u39, u40, u41, u42, u43, u44, u45, u46, u47, u48, u49, u50, u51, u52, u53, u54, u55, u56, u57, undef, undef, undef, undef, undef, undef, undef, undef, undef, undef, undef, undef, undef, undef, undef, undef, undef, undef, undef, undef, undef, undef, undef, undef, undef, undef, undef, undef, undef, undef, undef, undef, undef, undef, undef, undef, undef, undef, undef, undef, undef, undef, undef, undef, undef, undef, undef, undef, undef, undef, undef, undef, undef, undef, undef, undef, undef, undef, undef, undef, undef, undef, undef, undef, undef, undef, undef, undef, undef, undef, undef, undef, undef, undef, undef, undef, undef, undef, undef, undef, undef, undef, undef, undef, undef, undef, undef, undef, undef, undef, undef, undef, undef, undef, undef, undef, undef, undef, undef], defers := [] } w1 := by
    intro b u13 u14 u15 u16 u17 u18 u19 u20 u21 u22 u23 u24 u25 u26 u27 u28 u29 u30 u31 u32 u33 u34 u35 u36 u37 u38 u39 u40 u41 u42 u43 u44 u45 u46 u47 u48 u49 u50 u51 u52 u53 u54 u55 u56 u57 hb0
    refine ar _ _ ?_
    clear ar al C0 C1 C3 C4 hx
    have HB0 := Lib.hid hb0
    clear hb0
    go_wp2
    go_loopw [5, 6, 7, 61] (fun t5 t6 t7 p wr => ∃ (k : Nat) (bk : Bool), k ≤ g.nodes.length ∧ p = .int .i64 (k : Int) ∧ t5 = .bool bk ∧ t6 = .int .i64 (psum (g.nodes.take k) : Int) ∧ t7 = .int .i64 (lastN g.nodes k) ∧ Hid (bk = true → Head c g ∧ NodesOk g k) ∧ Hid (Below w1.heap.size w1 wr)) (fun _ _ _ p _ => g.nodes.length - (intOf p).toNat)
    case atStart => exact ⟨0, b, by omega, rfl, rfl, rfl, rfl, (fun e => ⟨HB0.out e, fun i x h => by omega⟩), Below.refl _ _⟩
    case round =>
      obtain ⟨wa, rfl⟩ : ∃ wa, wa = wr := ⟨wr, rfl⟩
      obtain ⟨k, bk, hk, rfl, rfl, rfl, rfl, hok, hb⟩ := hrel
      have hwr := hb.out.size
      have BXa := Lib.hid (BX1.out.keep (hb.out.block _ g2))
      clear x0 x1 x2 x3 xf
      obtain ⟨x0, x1, x2, x3, xf⟩ := BXa.out
      have hpl : psum (g.nodes.take k) ≤ 100 * k := psum_le HF.out.2.2 k
      by_cases hlt : k < g.nodes.length
      case neg =>
        obtain rfl : k = g.nodes.length := by omega
        have hpn : psum (g.nodes.take g.nodes.length) = psum g.nodes := by rw [List.take_length]
        rw [hpn] at hpl ⊢
        clear hpn
        go_wp2
        clear x0 x1 x2 x3 xf
        go_loopw [5, 7, 114] (fun t5 t7 p wr => ∃ (k2 : Nat) (b2 : Bool), k2 ≤ g.edges.length ∧ p = .int .i64 (k2 : Int) ∧ t5 = .bool b2 ∧ t7 = .int .i64 (lastE g.edges k2) ∧ Hid (b2 = true → (Head c g ∧ NodesOk g g.nodes.length) ∧ EdgesOk g k2) ∧ Hid (Below w1.heap.size w1 wr)) (fun _ _ p _ => g.edges.length - (intOf p).toNat)
        case atStart => exact ⟨0, bk, by omega, rfl, rfl, rfl, (fun e => ⟨hok.out e, fun i x h => by omega⟩), hb⟩
        case round =>
          obtain ⟨wq, rfl⟩ : ∃ wq, wq = wr := ⟨wr, rfl⟩
          obtain ⟨k2, b2, hk2, rfl, rfl, rfl, hok2, hbq⟩ := hrel
          have hsq := hbq.out.size
          have BXq := Lib.hid (BX1.out.keep (hbq.out.block _ g2))
          obtain ⟨x0, x1, x2, x3, xf⟩ := BXq.out
          by_cases hlt2 : k2 < g.edges.length
          case neg =>
            obtain rfl : k2 = g.edges.length := by omega
            have c2 : wq.cell? ⟨w.heap.size, 2, none⟩ = some (.int .i64 c.props) := ((bcell hbq.out).1 _ _ g1).trans C2
            have HK9 := Lib.hid (K1.out.trans (hbq.out.mono (by omega)))
            cases b2
            · go_wp2
              go_ret
              exact ⟨1, rfl, (fun e => by omega), HK9.out⟩
            · by_cases hpp : c.props < (psum g.nodes : Int)
              · have hd : decide (c.props < (psum g.nodes : Int)) = true := decide_eq_true hpp
                go_wp2
                go_ret
                exact ⟨1, rfl, (fun e => by omega), HK9.out⟩
              · have hd : decide (c.props < (psum g.nodes : Int)) = false := decide_eq_false hpp
                have HM := Lib.hid (show MayG c g from by
                  obtain ⟨⟨a0, a1⟩, a2⟩ := hok2.out (by trivial)
                  exact ⟨a0, a1, a2, by omega⟩)
                go_wp2
                go_ret
                exact ⟨0, rfl, (fun _ => HM.out), HK9.out⟩
          obtain ⟨e, he⟩ := getElem?_of_lt hlt2
          obtain ⟨be, oe, rfl, _, hble, z0, z1, z2⟩ := (H1.out.below hbq.out).atE he
          have hl2 := lastE_succ he
          have HL2 := Lib.hid hl2
          have HX2 := Lib.hid he
          clear he hl2
          have q1 : wq.heap.size < wq.heap.size + 1 := by omega
          have q2 : be < wq.heap.size + 1 := by omega
          have q3 : w.heap.size + 1 < wq.heap.size := by omega
          have q4 : w.heap.size + 1 < wq.heap.size + 1 := by omega
          have HBe := Lib.hid (hbq.out.alloc (by omega) (.cells #[.int .i64 e.id, .int .i64 e.frm, .int .i64 e.to] 40))
          have HGe := Lib.hid ((H1.out.below hbq.out).below (Below.heap1 wq (.cells #[.int .i64 e.id, .int .i64 e.frm, .int .i64 e.to] 40)))
          generalize hLE : lastE g.edges k2 = le at *
          have HLE := Lib.hid hLE
          clear hLE
          cases b2
          · skip
            go_wp2
            go_roundw
            case rel => exact ⟨k2 + 1, false, by omega, by first | (go_num; done) | (go_num; omega), rfl, by rw [HL2.out], (fun e => by cases e), HBe⟩
            case measure => simp [intOf]; omega
          by_cases n1 : le < e.id
          case neg =>
            have hd1 : decide (le < e.id) = false := decide_eq_false n1
            go_wp2
            go_roundw
            case rel => exact ⟨k2 + 1, false, by omega, by first | (go_num; done) | (go_num; omega), rfl, by rw [HL2.out], (fun e => by cases e), HBe⟩
            case measure => simp [intOf]; omega
          have hd1 : decide (le < e.id) = true := decide_eq_true n1
          by_cases n2 : e.id < g.ne
          case neg =>
            have hd2 : decide (e.id < g.ne) = false := decide_eq_false n2
            go_wp2
            go_roundw
            case rel => exact ⟨k2 + 1, false, by omega, by first | (go_num; done) | (go_num; omega), rfl, by rw [HL2.out], (fun e => by cases e), HBe⟩
            case measure => simp [intOf]; omega
          have hd2 : decide (e.id < g.ne) = true := decide_eq_true n2
          have hn100 : g.nodes.length ≤ 1000000 := by omega
          go_wp2_with fail
          refine (refAt_calls _ S g _ _ e.frm HGe.out hn100).mono ?_
          rintro en w5 ⟨rfl, hb5⟩
          have s5 := hb5.size
          have hc5 := (bcell hb5).1
          have HG5 := Lib.hid (HGe.out.below hb5)
          have HB5 := Lib.hid (HBe.out.trans (hb5.mono (by simp; omega)))
          clear hb5
          simp only [World.size_alloc] at s5 hc5
          have q5 : wq.heap.size < w5.heap.size := by omega
          have q6 : w.heap.size + 1 < w5.heap.size := by omega
          by_cases n3 : 0 ≤ atOf g.nodes e.frm
          case neg =>
            have hd3 : decide (0 ≤ atOf g.nodes e.frm) = false := decide_eq_false n3
            go_wp2
            go_roundw
            case rel => exact ⟨k2 + 1, false, by omega, by first | (go_num; done) | (go_num; omega), rfl, by rw [HL2.out], (fun e => by cases e), HB5⟩
            case measure => simp [intOf]; omega
          have hd3 : decide (0 ≤ atOf g.nodes e.frm) = true := decide_eq_true n3
          have HN3 := Lib.hid n3
          clear n3
          obtain ⟨pf, hpf⟩ : ∃ pf, pf = atOf g.nodes e.frm := ⟨_, rfl⟩
          have HPF := Lib.hid hpf
          rw [← hpf] at hd3 ⊢
          clear hpf
          go_wp2_with fail
          refine (refAt_calls _ S g _ _ e.to HG5.out hn100).mono ?_
          rintro en w6 ⟨rfl, hb6⟩
          have HB6 := Lib.hid (HB5.out.trans (hb6.mono (by omega)))
          have hc6 := (bcell hb6).1
          have s6 := hb6.size
          have q7 : wq.heap.size < w6.heap.size := by omega
          clear hb6
          have HNEW := Lib.hid (show decide (0 ≤ atOf g.nodes e.to) = true → (Head c g ∧ NodesOk g g.nodes.length) ∧ EdgesOk g (k2 + 1) from fun hd => by
            obtain ⟨a0, a1⟩ := hok2.out (by trivial)
            refine ⟨a0, fun i y hi hy => ?_⟩
            rcases Nat.lt_or_ge i k2 with h3 | h3
            · exact a1 i y h3 hy
            · obtain rfl : i = k2 := by omega
              rw [HX2.out] at hy
              injection hy with hy
              subst hy
              exact ⟨by rw [HLE.out]; exact n1, n2, HN3.out, of_decide_eq_true hd⟩)
          obtain ⟨pt, hpt⟩ : ∃ pt, pt = atOf g.nodes e.to := ⟨_, rfl⟩
          rw [← hpt] at HNEW ⊢
          clear hpt
          go_wp2
          go_roundw
          case rel => exact ⟨k2 + 1, _, by omega, by first | (go_num; done) | (go_num; omega), rfl, by rw [HL2.out], HNEW, HB6⟩
          case measure => simp [intOf]; omega
      obtain ⟨x, hx⟩ := getElem?_of_lt hlt
      obtain ⟨bn, on, ap, dp, rfl, _, hbl, hr, z0, z1⟩ := (H1.out.below hb.out).atN hx
      have hpx := HF.out.2.2 x (List.mem_of_getElem? hx)
      have HX := Lib.hid hx
      have HRP := Lib.hid hr
      clear hx hr
      have q1 : wa.heap.size < wa.heap.size + 1 := by omega
      have q2 : bn < wa.heap.size + 1 := by omega
      have q4 : w.heap.size + 1 < wa.heap.size := by omega
      have q5 : w.heap.size + 1 < wa.heap.size + 1 := by omega
      generalize hLN : lastN g.nodes k = ln at *
      generalize hPS : psum (g.nodes.take k) = ps0 at *
      have HLN := Lib.hid hLN
      have HPS0 := Lib.hid hPS
      clear hLN hPS
      cases bk
      · skip
        go_wp2
        go_loopw [5, 10] (fun t5 p wr => ∃ (m : Nat) (b2 : Bool), m ≤ x.ps.length ∧ p = .int .i64 ((m + 1 : Nat) : Int) ∧ t5 = .bool b2 ∧ Hid (b2 = true → ((Head c g ∧ NodesOk g k) ∧ ln < x.id ∧ x.id < g.nn) ∧ Rises x.ps (m + 1)) ∧ Hid (Below (wa.alloc (.cells #[.int .i64 x.id, .slice ap x.ps.length dp] 32)).heap.size (wa.alloc (.cells #[.int .i64 x.id, .slice ap x.ps.length dp] 32)) wr)) (fun _ p _ => x.ps.length + 1 - (intOf p).toNat)
        case atStart => exact ⟨0, _, by omega, rfl, rfl, (fun e => ⟨(by cases e), fun i p q h => by omega⟩), Below.refl _ _⟩
        case round =>
          obtain ⟨wq, rfl⟩ : ∃ wq, wq = wr := ⟨wr, rfl⟩
          obtain ⟨m, b2, hm, rfl, rfl, hb2, hbq⟩ := hrel
          have hsq := hbq.out.size
          have hcq := (bcell hbq.out).1
          simp only [World.size_alloc] at hsq hcq
          have q3 : wa.heap.size < wq.heap.size := by omega
          by_cases hml : m + 1 < x.ps.length
          · have hml0 : m < x.ps.length := by omega
            have hI1 : (0 : Int) ≤ (m : Int) + 1 := by omega
            have hI2 : (m : Int) + 1 < (x.ps.length : Int) := by omega
            have hI3 : ((m : Int) + 1).toNat = m + 1 := by omega
            have hI4 : (m : Int) + 1 - 1 = (m : Int) := by omega
            have hI5 : IntKind.i64.wrap (m : Int) = (m : Int) := by rw [IntKind.wrap_i64]; omega
            obtain ⟨p0, hp0⟩ := getElem?_of_lt hml0
            obtain ⟨p1, hp1⟩ := getElem?_of_lt hml
            have hrq := (HRP.out.below (Below.heap1 wa (.cells #[.int .i64 x.id, .slice ap x.ps.length dp] 32))).below hbq.out
            obtain ⟨bp, op, hAp, _, hbpl, y0, _⟩ := hrq.atP hp0
            obtain ⟨bp', op', hAp', _, _, y1, _⟩ := hrq.atP hp1
            rw [hAp] at hAp'
            injection hAp' with hAp'
            injection hAp' with h8 h9
            subst h8 h9
            have HP0 := Lib.hid hp0
            have HP1 := Lib.hid hp1
            clear hp0 hp1 hrq
            subst hAp
            cases b2
            · go_wp2_with fail
              refine wp_region_schedK (fun _ => True) [(0, true), (1, true), (2, true), (3, true), (4, true), (5, true), (6, true), (7, true), (8, true), (9, true), (10, true), (11, true), (12, true), (13, true), (14, true), (15, true), (16, true), (17, true)] (by kernel_rfl) (by kernel_rfl) (fun hS => ?_)
              have HK := Lib.hid hS
              clear hS
              repeat (first | (refine sched_take (v := ?_) (by simp only [List.getElem?_toArray, List.getElem?_cons_succ, List.getElem?_cons_zero]; rfl) (Or.inl ⟨by rfl, fun W hW => ?_⟩) HK.out ?_; rotate_left; (have hc := fun b o hb => hW.cell b o trivial hb; clear hW; go_simp; with_reducible rfl); simp only [Act.put, List.setIfInBounds_toArray, List.set_cons_zero, List.set_cons_succ]) | (refine sched_take (by simp only [List.getElem?_toArray, List.getElem?_cons_succ, List.getElem?_cons_zero]; rfl) (Or.inr ⟨by rfl, rfl⟩) HK.out ?_; simp only [Act.put, List.setIfInBounds_toArray, List.set_cons_zero, List.set_cons_succ]))
              refine sched_done ?_
              go_wp2
              go_roundw
              case rel => exact ⟨m + 1, false, by omega, by first | (go_num; done) | (go_num; omega), rfl, (fun e => by cases e), Lib.hid hbq.out.drew⟩
              case measure => simp [intOf]; omega
            · have HR2 := Lib.hid (show decide (p0.x < p1.x) = true → ((Head c g ∧ NodesOk g k) ∧ ln < x.id ∧ x.id < g.nn) ∧ Rises x.ps (m + 1 + 1) from fun e => by
                obtain ⟨a1, a2⟩ := hb2.out rfl
                refine ⟨a1, fun i u v hi hu hv => ?_⟩
                rcases Nat.lt_or_ge (i + 1) (m + 1) with h7 | h7
                · exact a2 i u v h7 hu hv
                · obtain rfl : i = m := by omega
                  rw [HP0.out] at hu
                  rw [HP1.out] at hv
                  injection hu with hu
                  injection hv with hv
                  subst hu hv
                  exact of_decide_eq_true e)
              go_wp2_with fail
              refine wp_region_schedK (fun _ => True) [(0, true), (1, true), (2, true), (3, true), (4, true), (5, true), (6, true), (7, true), (8, true), (9, true), (10, true), (11, true), (12, true), (13, true), (14, true), (15, true), (16, true), (17, true)] (by kernel_rfl) (by kernel_rfl) (fun hS => ?_)
              have HK := Lib.hid hS
              clear hS
              repeat (first | (refine sched_take (v := ?_) (by simp only [List.getElem?_toArray, List.getElem?_cons_succ, List.getElem?_cons_zero]; rfl) (Or.inl ⟨by rfl, fun W hW => ?_⟩) HK.out ?_; rotate_left; (have hc := fun b o hb => hW.cell b o trivial hb; clear hW; go_simp; with_reducible rfl); simp only [Act.put, List.setIfInBounds_toArray, List.set_cons_zero, List.set_cons_succ]) | (refine sched_take (by simp only [List.getElem?_toArray, List.getElem?_cons_succ, List.getElem?_cons_zero]; rfl) (Or.inr ⟨by rfl, rfl⟩) HK.out ?_; simp only [Act.put, List.setIfInBounds_toArray, List.set_cons_zero, List.set_cons_succ]))
              refine sched_done ?_
              go_wp2
              go_roundw
              case rel => exact ⟨m + 1, _, by omega, by first | (go_num; done) | (go_num; omega), rfl, HR2, Lib.hid hbq.out.drew⟩
              case measure => simp [intOf]; omega
          · have HOKn := Lib.hid (show b2 = true → Head c g ∧ NodesOk g (k + 1) from fun e => by
              obtain ⟨⟨a0, a1, a2⟩, a3⟩ := hb2.out e
              refine ⟨a0.1, fun i y hi hy => ?_⟩
              rcases Nat.lt_or_ge i k with h3 | h3
              · exact a0.2 i y h3 hy
              · obtain rfl : i = k := by omega
                rw [HX.out] at hy
                injection hy with hy
                subst hy
                exact ⟨by rw [HLN.out]; exact a1, a2, fun i u v hi hu hv => a3 i u v (by omega) hu hv⟩)
            have HBq := Lib.hid (hb.out.trans ((Below.heap1 wa (.cells #[.int .i64 x.id, .slice ap x.ps.length dp] 32)).mono hwr |>.trans (hbq.out.mono (by simp; omega))))
            have hl2 : lastN g.nodes (k + 1) = x.id := lastN_succ HX.out
            have hps := psum_succ HX.out
            have HL2 := Lib.hid hl2
            have HPS := Lib.hid hps
            clear hl2 hps
            go_wp2
            go_roundw
            case rel => exact ⟨k + 1, b2, by omega, by first | (go_num; done) | (go_num; omega), rfl, by rw [HPS.out, HPS0.out]; first | (go_num; done) | (go_num; omega), by rw [HL2.out], HOKn, HBq⟩
            case measure => simp [intOf]; omega
      · by_cases n1 : ln < x.id
        · skip
          go_wp2
          go_loopw [5, 10] (fun t5 p wr => ∃ (m : Nat) (b2 : Bool), m ≤ x.ps.length ∧ p = .int .i64 ((m + 1 : Nat) : Int) ∧ t5 = .bool b2 ∧ Hid (b2 = true → ((Head c g ∧ NodesOk g k) ∧ ln < x.id ∧ x.id < g.nn) ∧ Rises x.ps (m + 1)) ∧ Hid (Below (wa.alloc (.cells #[.int .i64 x.id, .slice ap x.ps.length dp] 32)).heap.size (wa.alloc (.cells #[.int .i64 x.id, .slice ap x.ps.length dp] 32)) wr)) (fun _ p _ => x.ps.length + 1 - (intOf p).toNat)
          case atStart => exact ⟨0, _, by omega, rfl, rfl, (fun e => ⟨⟨hok.out (by trivial), n1, of_decide_eq_true e⟩, fun i p q h => by omega⟩), Below.refl _ _⟩
          case round =>
            obtain ⟨wq, rfl⟩ : ∃ wq, wq = wr := ⟨wr, rfl⟩
            obtain ⟨m, b2, hm, rfl, rfl, hb2, hbq⟩ := hrel
            have hsq := hbq.out.size
            have hcq := (bcell hbq.out).1
            simp only [World.size_alloc] at hsq hcq
            have q3 : wa.heap.size < wq.heap.size := by omega
            by_cases hml : m + 1 < x.ps.length
            · have hml0 : m < x.ps.length := by omega
              have hI1 : (0 : Int) ≤ (m : Int) + 1 := by omega
              have hI2 : (m : Int) + 1 < (x.ps.length : Int) := by omega
              have hI3 : ((m : Int) + 1).toNat = m + 1 := by omega
              have hI4 : (m : Int) + 1 - 1 = (m : Int) := by omega
              have hI5 : IntKind.i64.wrap (m : Int) = (m : Int) := by rw [IntKind.wrap_i64]; omega
              obtain ⟨p0, hp0⟩ := getElem?_of_lt hml0
              obtain ⟨p1, hp1⟩ := getElem?_of_lt hml
              have hrq := (HRP.out.below (Below.heap1 wa (.cells #[.int .i64 x.id, .slice ap x.ps.length dp] 32))).below hbq.out
              obtain ⟨bp, op, hAp, _, hbpl, y0, _⟩ := hrq.atP hp0
              obtain ⟨bp', op', hAp', _, _, y1, _⟩ := hrq.atP hp1
              rw [hAp] at hAp'
              injection hAp' with hAp'
              injection hAp' with h8 h9
              subst h8 h9
              have HP0 := Lib.hid hp0
              have HP1 := Lib.hid hp1
              clear hp0 hp1 hrq
              subst hAp
              cases b2
              · go_wp2_with fail
                refine wp_region_schedK (fun _ => True) [(0, true), (1, true), (2, true), (3, true), (4, true), (5, true), (6, true), (7, true), (8, true), (9, true), (10, true), (11, true), (12, true), (13, true), (14, true), (15, true), (16, true), (17, true)] (by kernel_rfl) (by kernel_rfl) (fun hS => ?_)
                have HK := Lib.hid hS
                clear hS
                repeat (first | (refine sched_take (v := ?_) (by simp only [List.getElem?_toArray, List.getElem?_cons_succ, List.getElem?_cons_zero]; rfl) (Or.inl ⟨by rfl, fun W hW => ?_⟩) HK.out ?_; rotate_left; (have hc := fun b o hb => hW.cell b o trivial hb; clear hW; go_simp; with_reducible rfl); simp only [Act.put, List.setIfInBounds_toArray, List.set_cons_zero, List.set_cons_succ]) | (refine sched_take (by simp only [List.getElem?_toArray, List.getElem?_cons_succ, List.getElem?_cons_zero]; rfl) (Or.inr ⟨by rfl, rfl⟩) HK.out ?_; simp only [Act.put, List.setIfInBounds_toArray, List.set_cons_zero, List.set_cons_succ]))
                refine sched_done ?_
                go_wp2
                go_roundw
                case rel => exact ⟨m + 1, false, by omega, by first | (go_num; done) | (go_num; omega), rfl, (fun e => by cases e), Lib.hid hbq.out.drew⟩
                case measure => simp [intOf]; omega
              · have HR2 := Lib.hid (show decide (p0.x < p1.x) = true → ((Head c g ∧ NodesOk g k) ∧ ln < x.id ∧ x.id < g.nn) ∧ Rises x.ps (m + 1 + 1) from fun e => by
                  obtain ⟨a1, a2⟩ := hb2.out rfl
                  refine ⟨a1, fun i u v hi hu hv => ?_⟩
                  rcases Nat.lt_or_ge (i + 1) (m + 1) with h7 | h7
                  · exact a2 i u v h7 hu hv
                  · obtain rfl : i = m := by omega
                    rw [HP0.out] at hu
                    rw [HP1.out] at hv
                    injection hu with hu
                    injection hv with hv
                    subst hu hv
                    exact of_decide_eq_true e)
                go_wp2_with fail
                refine wp_region_schedK (fun _ => True) [(0, true), (1, true), (2, true), (3, true), (4, true), (5, true), (6, true), (7, true), (8, true), (9, true), (10, true), (11, true), (12, true), (13, true), (14, true), (15, true), (16, true), (17, true)] (by kernel_rfl) (by kernel_rfl) (fun hS => ?_)
                have HK := Lib.hid hS
                clear hS
                repeat (first | (refine sched_take (v := ?_) (by simp only [List.getElem?_toArray, List.getElem?_cons_succ, List.getElem?_cons_zero]; rfl) (Or.inl ⟨by rfl, fun W hW => ?_⟩) HK.out ?_; rotate_left; (have hc := fun b o hb => hW.cell b o trivial hb; clear hW; go_simp; with_reducible rfl); simp only [Act.put, List.setIfInBounds_toArray, List.set_cons_zero, List.set_cons_succ]) | (refine sched_take (by simp only [List.getElem?_toArray, List.getElem?_cons_succ, List.getElem?_cons_zero]; rfl) (Or.inr ⟨by rfl, rfl⟩) HK.out ?_; simp only [Act.put, List.setIfInBounds_toArray, List.set_cons_zero, List.set_cons_succ]))
                refine sched_done ?_
                go_wp2
                go_roundw
                case rel => exact ⟨m + 1, _, by omega, by first | (go_num; done) | (go_num; omega), rfl, HR2, Lib.hid hbq.out.drew⟩
                case measure => simp [intOf]; omega
            · have HOKn := Lib.hid (show b2 = true → Head c g ∧ NodesOk g (k + 1) from fun e => by
                obtain ⟨⟨a0, a1, a2⟩, a3⟩ := hb2.out e
                refine ⟨a0.1, fun i y hi hy => ?_⟩
                rcases Nat.lt_or_ge i k with h3 | h3
                · exact a0.2 i y h3 hy
                · obtain rfl : i = k := by omega
                  rw [HX.out] at hy
                  injection hy with hy
                  subst hy
                  exact ⟨by rw [HLN.out]; exact a1, a2, fun i u v hi hu hv => a3 i u v (by omega) hu hv⟩)
              have HBq := Lib.hid (hb.out.trans ((Below.heap1 wa (.cells #[.int .i64 x.id, .slice ap x.ps.length dp] 32)).mono hwr |>.trans (hbq.out.mono (by simp; omega))))
              have hl2 : lastN g.nodes (k + 1) = x.id := lastN_succ HX.out
              have hps := psum_succ HX.out
              have HL2 := Lib.hid hl2
              have HPS := Lib.hid hps
              clear hl2 hps
              go_wp2
              go_roundw
              case rel => exact ⟨k + 1, b2, by omega, by first | (go_num; done) | (go_num; omega), rfl, by rw [HPS.out, HPS0.out]; first | (go_num; done) | (go_num; omega), by rw [HL2.out], HOKn, HBq⟩
              case measure => simp [intOf]; omega
        · have hd1 : decide (ln < x.id) = false := decide_eq_false n1
          go_wp2
          go_loopw [5, 10] (fun t5 p wr => ∃ (m : Nat) (b2 : Bool), m ≤ x.ps.length ∧ p = .int .i64 ((m + 1 : Nat) : Int) ∧ t5 = .bool b2 ∧ Hid (b2 = true → ((Head c g ∧ NodesOk g k) ∧ ln < x.id ∧ x.id < g.nn) ∧ Rises x.ps (m + 1)) ∧ Hid (Below (wa.alloc (.cells #[.int .i64 x.id, .slice ap x.ps.length dp] 32)).heap.size (wa.alloc (.cells #[.int .i64 x.id, .slice ap x.ps.length dp] 32)) wr)) (fun _ p _ => x.ps.length + 1 - (intOf p).toNat)
          case atStart => exact ⟨0, _, by omega, rfl, rfl, (fun e => ⟨(by cases e), fun i p q h => by omega⟩), Below.refl _ _⟩
          case round =>
            obtain ⟨wq, rfl⟩ : ∃ wq, wq = wr := ⟨wr, rfl⟩
            obtain ⟨m, b2, hm, rfl, rfl, hb2, hbq⟩ := hrel
            have hsq := hbq.out.size
            have hcq := (bcell hbq.out).1
            simp only [World.size_alloc] at hsq hcq
            have q3 : wa.heap.size < wq.heap.size := by omega
            by_cases hml : m + 1 < x.ps.length
            · have hml0 : m < x.ps.length := by omega
              have hI1 : (0 : Int) ≤ (m : Int) + 1 := by omega
              have hI2 : (m : Int) + 1 < (x.ps.length : Int) := by omega
              have hI3 : ((m : Int) + 1).toNat = m + 1 := by omega
              have hI4 : (m : Int) + 1 - 1 = (m : Int) := by omega
              have hI5 : IntKind.i64.wrap (m : Int) = (m : Int) := by rw [IntKind.wrap_i64]; omega
              obtain ⟨p0, hp0⟩ := getElem?_of_lt hml0
              obtain ⟨p1, hp1⟩ := getElem?_of_lt hml
              have hrq := (HRP.out.below (Below.heap1 wa (.cells #[.int .i64 x.id, .slice ap x.ps.length dp] 32))).below hbq.out
              obtain ⟨bp, op, hAp, _, hbpl, y0, _⟩ := hrq.atP hp0
              obtain ⟨bp', op', hAp', _, _, y1, _⟩ := hrq.atP hp1
              rw [hAp] at hAp'
              injection hAp' with hAp'
              injection hAp' with h8 h9
              subst h8 h9
              have HP0 := Lib.hid hp0
              have HP1 := Lib.hid hp1
              clear hp0 hp1 hrq
              subst hAp
              cases b2
              · go_wp2_with fail
                refine wp_region_schedK (fun _ => True) [(0, true), (1, true), (2, true), (3, true), (4, true), (5, true), (6, true), (7, true), (8, true), (9, true), (10, true), (11, true), (12, true), (13, true), (14, true), (15, true), (16, true), (17, true)] (by kernel_rfl) (by kernel_rfl) (fun hS => ?_)
                have HK := Lib.hid hS
                clear hS
                repeat (first | (refine sched_take (v := ?_) (by simp only [List.getElem?_toArray, List.getElem?_cons_succ, List.getElem?_cons_zero]; rfl) (Or.inl ⟨by rfl, fun W hW => ?_⟩) HK.out ?_; rotate_left; (have hc := fun b o hb => hW.cell b o trivial hb; clear hW; go_simp; with_reducible rfl); simp only [Act.put, List.setIfInBounds_toArray, List.set_cons_zero, List.set_cons_succ]) | (refine sched_take (by simp only [List.getElem?_toArray, List.getElem?_cons_succ, List.getElem?_cons_zero]; rfl) (Or.inr ⟨by rfl, rfl⟩) HK.out ?_; simp only [Act.put, List.setIfInBounds_toArray, List.set_cons_zero, List.set_cons_succ]))
                refine sched_done ?_
                go_wp2
                go_roundw
                case rel => exact ⟨m + 1, false, by omega, by first | (go_num; done) | (go_num; omega), rfl, (fun e => by cases e), Lib.hid hbq.out.drew⟩
                case measure => simp [intOf]; omega
              · have HR2 := Lib.hid (show decide (p0.x < p1.x) = true → ((Head c g ∧ NodesOk g k) ∧ ln < x.id ∧ x.id < g.nn) ∧ Rises x.ps (m + 1 + 1) from fun e => by
                  obtain ⟨a1, a2⟩ := hb2.out rfl
                  refine ⟨a1, fun i u v hi hu hv => ?_⟩
                  rcases Nat.lt_or_ge (i + 1) (m + 1) with h7 | h7
                  · exact a2 i u v h7 hu hv
                  · obtain rfl : i = m := by omega
                    rw [HP0.out] at hu
                    rw [HP1.out] at hv
                    injection hu with hu
                    injection hv with hv
                    subst hu hv
                    exact of_decide_eq_true e)
                go_wp2_with fail
                refine wp_region_schedK (fun _ => True) [(0, true), (1, true), (2, true), (3, true), (4, true), (5, true), (6, true), (7, true), (8, true), (9, true), (10, true), (11, true), (12, true), (13, true), (14, true), (15, true), (16, true), (17, true)] (by kernel_rfl) (by kernel_rfl) (fun hS => ?_)
                have HK := Lib.hid hS
                clear hS
                repeat (first | (refine sched_take (v := ?_) (by simp only [List.getElem?_toArray, List.getElem?_cons_succ, List.getElem?_cons_zero]; rfl) (Or.inl ⟨by rfl, fun W hW => ?_⟩) HK.out ?_; rotate_left; (have hc := fun b o hb => hW.cell b o trivial hb; clear hW; go_simp; with_reducible rfl); simp only [Act.put, List.setIfInBounds_toArray, List.set_cons_zero, List.set_cons_succ]) | (refine sched_take (by simp only [List.getElem?_toArray, List.getElem?_cons_succ, List.getElem?_cons_zero]; rfl) (Or.inr ⟨by rfl, rfl⟩) HK.out ?_; simp only [Act.put, List.setIfInBounds_toArray, List.set_cons_zero, List.set_cons_succ]))
                refine sched_done ?_
                go_wp2
                go_roundw
                case rel => exact ⟨m + 1, _, by omega, by first | (go_num; done) | (go_num; omega), rfl, HR2, Lib.hid hbq.out.drew⟩
                case measure => simp [intOf]; omega
            · have HOKn := Lib.hid (show b2 = true → Head c g ∧ NodesOk g (k + 1) from fun e => by
                obtain ⟨⟨a0, a1, a2⟩, a3⟩ := hb2.out e
                refine ⟨a0.1, fun i y hi hy => ?_⟩
                rcases Nat.lt_or_ge i k with h3 | h3
                · exact a0.2 i y h3 hy
                · obtain rfl : i = k := by omega
                  rw [HX.out] at hy
                  injection hy with hy
                  subst hy
                  exact ⟨by rw [HLN.out]; exact a1, a2, fun i u v hi hu hv => a3 i u v (by omega) hu hv⟩)
              have HBq := Lib.hid (hb.out.trans ((Below.heap1 wa (.cells #[.int .i64 x.id, .slice ap x.ps.length dp] 32)).mono hwr |>.trans (hbq.out.mono (by simp; omega))))
              have hl2 : lastN g.nodes (k + 1) = x.id := lastN_succ HX.out
              have hps := psum_succ HX.out
              have HL2 := Lib.hid hl2
              have HPS := Lib.hid hps
              clear hl2 hps
              go_wp2
              go_roundw
              case rel => exact ⟨k + 1, b2, by omega, by first | (go_num; done) | (go_num; omega), rfl, by rw [HPS.out, HPS0.out]; first | (go_num; done) | (go_num; omega), by rw [HL2.out], HOKn, HBq⟩
              case measure => simp [intOf]; omega
  have CUT := Lib.hid CUT0
  clear ar CUT0
  rcases hx with ⟨rfl, hok⟩ | ⟨rfl, hok⟩
  case inr =>
    go_wp2
    exact CUT.out false _ _ _ _ _ _ _ _ _ _ _ _ _ _ _ _ _ _ _ _ _ _ _ _ _ _ _ _ _ _ _ _ _ _ _ _ _ _ _ _ _ _ _ _ _ (fun e => by cases e)
  by_cases n1 : 1 ≤ g.nn
  case neg =>
    have hd : decide (1 ≤ g.nn) = false := decide_eq_false n1
    go_wp2
    exact CUT.out false _ _ _ _ _ _ _ _ _ _ _ _ _ _ _ _ _ _ _ _ _ _ _ _ _ _ _ _ _ _ _ _ _ _ _ _ _ _ _ _ _ _ _ _ _ (fun e => by cases e)
  have hids := hok.2.2.2.1
  have heids := hok.2.2.2.2
  obtain ⟨hi1, hi2⟩ := hids
  obtain ⟨he1, he2⟩ := heids
  have HOK := Lib.hid hok
  clear hok
  by_cases n2 : g.nn ≤ c.ids + 1
  case neg =>
    have hd : decide (1 ≤ g.nn) = true := decide_eq_true n1
    have hd2 : decide (g.nn ≤ c.ids + 1) = false := decide_eq_false n2
    go_wp2
    exact CUT.out false _ _ _ _ _ _ _ _ _ _ _ _ _ _ _ _ _ _ _ _ _ _ _ _ _ _ _ _ _ _ _ _ _ _ _ _ _ _ _ _ _ _ _ _ _ (fun e => by cases e)
  by_cases n3 : 1 ≤ g.ne
  case neg =>
    have hd : decide (1 ≤ g.nn) = true := decide_eq_true n1
    have hd2 : decide (g.nn ≤ c.ids + 1) = true := decide_eq_true n2
    have hd3 : decide (1 ≤ g.ne) = false := decide_eq_false n3
    go_wp2
    exact CUT.out false _ _ _ _ _ _ _ _ _ _ _ _ _ _ _ _ _ _ _ _ _ _ _ _ _ _ _ _ _ _ _ _ _ _ _ _ _ _ _ _ _ _ _ _ _ (fun e => by cases e)
  by_cases n4 : g.ne ≤ c.eids + 1
  case neg =>
    have hd : decide (1 ≤ g.nn) = true := decide_eq_true n1
    have hd2 : decide (g.nn ≤ c.ids + 1) = true := decide_eq_true n2
    have hd3 : decide (1 ≤ g.ne) = true := decide_eq_true n3
    have hd4 : decide (g.ne ≤ c.eids + 1) = false := decide_eq_false n4
    go_wp2
    exact CUT.out false _ _ _ _ _ _ _ _ _ _ _ _ _ _ _ _ _ _ _ _ _ _ _ _ _ _ _ _ _ _ _ _ _ _ _ _ _ _ _ _ _ _ _ _ _ (fun e => by cases e)
  have hd : decide (1 ≤ g.nn) = true := decide_eq_true n1
  have hd2 : decide (g.nn ≤ c.ids + 1) = true := decide_eq_true n2
  have hd3 : decide (1 ≤ g.ne) = true := decide_eq_true n3
  have hd4 : decide (g.ne ≤ c.eids + 1) = true := decide_eq_true n4
  by_cases n5 : (g.nodes.length : Int) ≤ c.nodes
  case neg =>
    have hd5 : decide ((g.nodes.length : Int) ≤ c.nodes) = false := decide_eq_false n5
    go_wp2
    exact CUT.out false _ _ _ _ _ _ _ _ _ _ _ _ _ _ _ _ _ _ _ _ _ _ _ _ _ _ _ _ _ _ _ _ _ _ _ _ _ _ _ _ _ _ _ _ _ (fun e => by cases e)
  have hd5 : decide ((g.nodes.length : Int) ≤ c.nodes) = true := decide_eq_true n5
  by_cases n6 : (g.edges.length : Int) ≤ c.edges
  case neg =>
    have hd6 : decide ((g.edges.length : Int) ≤ c.edges) = false := decide_eq_false n6
    go_wp2
    exact CUT.out false _ _ _ _ _ _ _ _ _ _ _ _ _ _ _ _ _ _ _ _ _ _ _ _ _ _ _ _ _ _ _ _ _ _ _ _ _ _ _ _ _ _ _ _ _ (fun e => by cases e)
  have hd6 : decide ((g.edges.length : Int) ≤ c.edges) = true := decide_eq_true n6
  have HH := Lib.hid (show Head c g from ⟨HOK.out, ⟨n1, n2⟩, ⟨n3, n4⟩, n5, n6⟩)
  go_wp2
  exact CUT.out true _ _ _ _ _ _ _ _ _ _ _ _ _ _ _ _ _ _ _ _ _ _ _ _ _ _ _ _ _ _ _ _ _ _ _ _ _ _ _ _ _ _ _ _ _ (fun _ => HH.out)
end Go.Proofs.Ytpehmmdbjakkpaa
