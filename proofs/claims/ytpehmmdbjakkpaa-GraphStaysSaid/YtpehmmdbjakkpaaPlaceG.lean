/- place.Check; graph.Check's closure. -/
import Derived.Test.YtpehmmdbjakkpaaCountG
namespace Go.Proofs.Ytpehmmdbjakkpaa
open Go.RowKit Go.Shelf
set_option linter.unusedSimpArgs false
set_option linter.unusedVariables false
theorem min5 (a b c d e : Int) : ∃ m : Int, (m < 1 ↔ a < 1 ∨ b < 1 ∨ c < 1 ∨ d < 1 ∨ e < 1) ∧ ∀ (P : Program) (ts : Array TypeId) (t : TypeId) (W : World), (Builtin.min_ ts t #[.int .i64 a, .int .i64 b, .int .i64 c, .int .i64 d, .int .i64 e]).run P W = .ok (.int .i64 m) W := by
  refine ⟨_, ?_, fun P ts t W => by simp [Builtin.min_, Builtin.min2]; rfl⟩
  repeat' split
  all_goals omega
theorem max3 (a b c : Int) : ∃ m : Int, (64 < m ↔ 64 < a ∨ 64 < b ∨ 64 < c) ∧ ∀ (P : Program) (ts : Array TypeId) (t : TypeId) (W : World), (Builtin.max_ ts t #[.int .i64 a, .int .i64 b, .int .i64 c]).run P W = .ok (.int .i64 m) W := by
  refine ⟨_, ?_, fun P ts t W => by simp [Builtin.max_, Builtin.max2]; rfl⟩
  repeat' split
  all_goals omega
theorem max2 (a b : Int) : ∃ m : Int, (64 < m ↔ 64 < a ∨ 64 < b) ∧ ∀ (P : Program) (ts : Array TypeId) (t : TypeId) (W : World), (Builtin.max_ ts t #[.int .i64 a, .int .i64 b]).run P W = .ok (.int .i64 m) W := by
  refine ⟨_, ?_, fun P ts t W => by simp [Builtin.max_, Builtin.max2]; rfl⟩
  repeat' split
  all_goals omega
theorem min2' (a b : Int) : ∃ m : Int, (m < 1 ↔ a < 1 ∨ b < 1) ∧ ∀ (P : Program) (ts : Array TypeId) (t : TypeId) (W : World), (Builtin.min_ ts t #[.int .i64 a, .int .i64 b]).run P W = .ok (.int .i64 m) W := by
  refine ⟨_, ?_, fun P ts t W => by simp [Builtin.min_, Builtin.min2]; rfl⟩
  repeat' split
  all_goals omega
set_option maxRecDepth 20000 in
set_option maxHeartbeats 4000000 in
theorem place_calls (w : World) (c : CfgD) : Calls Try.prog 90 #[c.val] w fun e w' => ∃ x : Int, e = .returned (.int .i64 x) ∧ ((x = 0 ∧ c.ok) ∨ (x = 1 ∧ ¬ c.ok)) ∧ Below w.heap.size w w' := by
  obtain ⟨m1, hm1, r1⟩ := min5 c.nodes c.edges c.props c.ids c.eids
  obtain ⟨m2, hm2, r2⟩ := max3 c.nodes c.edges c.props
  obtain ⟨m3, hm3, r3⟩ := max2 c.ids c.eids
  have hok : c.ok ↔ ¬ m1 < 1 ∧ ¬ 64 < m2 ∧ ¬ 64 < m3 := by
    rw [hm1, hm2, hm3]
    unfold CfgD.ok
    omega
  have HOK := Lib.hid hok
  have r1 := r1 Try.prog
  have r2 := r2 Try.prog
  have r3 := r3 Try.prog
  clear hm1 hm2 hm3 hok
  unfold CfgD.val
  have KB := Lib.hid (Below.heap1 w (.cells #[.int .i64 c.nodes, .int .i64 c.edges, .int .i64 c.props, .int .i64 c.ids, .int .i64 c.eids] 23))
  by_cases h1 : m1 < 1
  · have HN := Lib.hid (show ¬ c.ok from fun h => (HOK.out.1 h).1 h1)
    have hd : decide (m1 < 1) = true := decide_eq_true h1
    go_enter Try.func90, Try.ntmps90
    go_wp2
    refine bodyPost_ret (v := .int .i64 1) (by simp [results, Try.results90, go_sem]; try rfl) rfl ⟨1, rfl, .inr ⟨rfl, HN.out⟩, KB.out⟩
  have hd : decide (m1 < 1) = false := decide_eq_false h1
  by_cases h2 : 64 < m2
  · have HN := Lib.hid (show ¬ c.ok from fun h => (HOK.out.1 h).2.1 h2)
    have hd2 : decide (64 < m2) = true := decide_eq_true h2
    go_enter Try.func90, Try.ntmps90
    go_wp2
    refine bodyPost_ret (v := .int .i64 1) (by simp [results, Try.results90, go_sem]; try rfl) rfl ⟨1, rfl, .inr ⟨rfl, HN.out⟩, KB.out⟩
  have hd2 : decide (64 < m2) = false := decide_eq_false h2
  by_cases h3 : 64 < m3
  · have HN := Lib.hid (show ¬ c.ok from fun h => (HOK.out.1 h).2.2 h3)
    have hd3 : decide (64 < m3) = true := decide_eq_true h3
    go_enter Try.func90, Try.ntmps90
    go_wp2
    refine bodyPost_ret (v := .int .i64 1) (by simp [results, Try.results90, go_sem]; try rfl) rfl ⟨1, rfl, .inr ⟨rfl, HN.out⟩, KB.out⟩
  have hd3 : decide (64 < m3) = false := decide_eq_false h3
  have HY := Lib.hid (HOK.out.2 ⟨h1, h2, h3⟩)
  go_enter Try.func90, Try.ntmps90
  go_wp2
  refine bodyPost_ret (v := .int .i64 0) (by simp [results, Try.results90, go_sem]; try rfl) rfl ⟨0, rfl, .inl ⟨rfl, HY.out⟩, KB.out⟩
/-- Has an edge an end that is nowhere? -/
def lostE (g : GraphD) (x : EdgeD) : Bool := decide (atOf g.nodes x.frm < 0) || decide (atOf g.nodes x.to < 0)
set_option maxRecDepth 20000 in
set_option maxHeartbeats 4000000 in
theorem lost_calls (w : World) (S : Nat → Prop) (g : GraphD) (vn ve : Value) (x : EdgeD) (gb : Nat) (h1 : gb < w.heap.size) (hb : Box4 w gb vn ve (.int .i64 g.nn) (.int .i64 g.ne)) (h : Gr w S g vn ve) (hs : g.nodes.length ≤ 1000000) :
    Calls Try.prog 93 #[.agg #[.int .i64 x.id, .int .i64 x.frm, .int .i64 x.to], .pointer (some ⟨gb, 0, none⟩)] w fun e w' => e = .returned (.bool (lostE g x)) ∧ Below w.heap.size w w' := by
  obtain ⟨⟨A1, c1, rfl⟩, ⟨A2, c2, rfl⟩⟩ := h.slices
  have KB := Lib.hid (Below.heap1 w (.cells #[.int .i64 x.id, .int .i64 x.frm, .int .i64 x.to] 40))
  have H := Lib.hid h
  have BX := Lib.hid (hb.keep (KB.out.block gb h1))
  clear h hb
  obtain ⟨x0, x1, x2, x3, xf⟩ := BX.out
  have g1 : gb < w.heap.size + 1 := by omega
  have g2 : w.heap.size < w.heap.size + 1 := by omega
  go_enter Try.func93, Try.ntmps93
  go_wp2_with fail
  refine (at_calls _ S g _ _ x.frm (H.out.below KB.out) hs).mono ?_
  rintro e w1 ⟨rfl, hb1⟩
  have s1 := hb1.size
  simp only [World.size_alloc] at s1
  have K1 := Lib.hid (KB.out.trans (hb1.mono (by simp)))
  have BX1 := Lib.hid (BX.out.keep (hb1.block gb (by simp; omega)))
  have e0 : w1.cell? ⟨w.heap.size, 2, none⟩ = some (.int .i64 x.to) := (hb1.cell (p := ⟨w.heap.size, 2, none⟩) (by simp)).trans (by simp [go_sem])
  clear hb1 x0 x1 x2 x3 xf
  by_cases hf : atOf g.nodes x.frm < 0
  · have HE := Lib.hid (show lostE g x = true by unfold lostE; rw [decide_eq_true hf]; rfl)
    have hd : decide (atOf g.nodes x.frm < 0) = true := decide_eq_true hf
    clear hf
    generalize atOf g.nodes x.frm = p at *
    go_wp2
    go_ret
    exact ⟨by rw [HE.out]; rfl, K1.out⟩
  have HE := Lib.hid (show lostE g x = decide (atOf g.nodes x.to < 0) by unfold lostE; rw [decide_eq_false hf]; rfl)
  have hd : decide (atOf g.nodes x.frm < 0) = false := decide_eq_false hf
  clear hf
  generalize atOf g.nodes x.frm = p at *
  obtain ⟨x0, x1, x2, x3, xf⟩ := BX1.out
  have g3 : gb < w1.heap.size := by omega
  have g4 : w.heap.size < w1.heap.size := by omega
  go_wp2_with fail
  refine (at_calls _ S g _ _ x.to (H.out.below K1.out) hs).mono ?_
  rintro e w2 ⟨rfl, hb2⟩
  have K2 := Lib.hid (K1.out.trans (hb2.mono K1.out.size))
  clear hb2 x0 x1 x2 x3 xf
  obtain ⟨q, hq⟩ : ∃ q, q = atOf g.nodes x.to := ⟨_, rfl⟩
  rw [← hq] at HE ⊢
  clear hq
  go_wp2
  go_ret
  exact ⟨by rw [HE.out]; rfl, K2.out⟩
theorem lost_enters : Enters Try.prog 93 := enters_of Try.func93 (by kernel_rfl) rfl
end Go.Proofs.Ytpehmmdbjakkpaa
