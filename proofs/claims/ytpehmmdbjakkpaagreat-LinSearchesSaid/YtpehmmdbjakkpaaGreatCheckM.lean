/- graph.rises at pairs, nodes and edges; graph.counted. graph.counted at nodes and edges; slices.ContainsFunc. place.Check; graph.Check's closure. graph.Check: 0 just if a graph may be. -/
import Derived.Test.YtpehmmdbjakkpaaGreatRefCheck
import Derived.Test.YtpehmmdbjakkpaaGreatLibM
namespace Go.Proofs.YtpehmmdbjakkpaaGreat
open Go.RowKit Go.Shelf
set_option linter.unusedSimpArgs false
set_option linter.unusedVariables false
/-- A bool that tells whether P. -/
def BPost (w : World) (P : Prop) (e : Ending) (w' : World) : Prop := ∃ b : Bool, e = .returned (.bool b) ∧ (b = true ↔ P) ∧ Below w.heap.size w w'
def RisesE (xs : List EdgeD) (m : Nat) : Prop := ∀ (i : Nat) (p q : EdgeD), i + 1 < m → xs[i]? = some p → xs[i + 1]? = some q → p.id < q.id
end Go.Proofs.YtpehmmdbjakkpaaGreat
namespace Go.Proofs.YtpehmmdbjakkpaaGreat
open Go.RowKit Go.Shelf
set_option linter.unusedSimpArgs false
set_option linter.unusedVariables false
end Go.Proofs.YtpehmmdbjakkpaaGreat
namespace Go.Proofs.YtpehmmdbjakkpaaGreat
open Go.RowKit Go.Shelf
set_option linter.unusedSimpArgs false
set_option linter.unusedVariables false
theorem min5 (a b c d e : Int) : ∃ m : Int, (m < 1 ↔ a < 1 ∨ b < 1 ∨ c < 1 ∨ d < 1 ∨ e < 1) ∧ ∀ (P : Program) (ts : Array TypeId) (t : TypeId) (W : World), (Builtin.min_ ts t #[.int .i64 a, .int .i64 b, .int .i64 c, .int .i64 d, .int .i64 e]).run P W = .ok (.int .i64 m) W := by
 refine ⟨_, ?_, fun P ts t W => by simp [Builtin.min_, Builtin.min2]; rfl⟩
 repeat' split
 all_goals omega
theorem max3 (a b c : Int) : ∃ m : Int, (64 < m ↔ 64 < a ∨ 64 < b ∨ 64 < c) ∧ ∀ (P : Program) (ts : Array TypeId) (t : TypeId) (W : World), (Builtin.max_ ts t #[.int .i64 a, .int .i64 b, .int .i64 c]).run P W = .ok (.int .i64 m) W := by
 refine ⟨_, ?_, fun P ts t W => by simp [Builtin.max_, Builtin.max2]; rfl⟩
 repeat' split
 all_goals omega
theorem max2 (a b : Int) : ∃ m : Int, (64 < m ↔ 64 < a ∨ 64 < b) ∧ ∀ (P : Program) (ts : Array TypeId) (t : TypeId) (W : World), (Builtin.max_ ts t #[.int .i64 a, .int .i64 b]).run P W = .ok (.int .i64 m) W := by
 refine ⟨_, ?_, fun P ts t W => by simp [Builtin.max_, Builtin.max2]; rfl⟩
 repeat' split
 all_goals omega
set_option maxRecDepth 20000 in
set_option maxHeartbeats 4000000 in
theorem place_calls (w : World) (c : CfgD) : Calls Tryz.prog 33 #[c.val] w fun e w' => ∃ x : Int, e = .returned (.int .i64 x) ∧ ((x = 0 ∧ c.ok) ∨ (x = 1 ∧ ¬ c.ok)) ∧ Below w.heap.size w w' := by
 obtain ⟨m1, hm1, r1⟩ := min5 c.nodes c.edges c.props c.ids c.eids
 obtain ⟨m2, hm2, r2⟩ := max3 c.nodes c.edges c.props
 obtain ⟨m3, hm3, r3⟩ := max2 c.ids c.eids
 have hok : c.ok ↔ ¬ m1 < 1 ∧ ¬ 64 < m2 ∧ ¬ 64 < m3 := by
  rw [hm1, hm2, hm3]
  unfold CfgD.ok
  omega
 have HOK := Lib.hid hok
 have r1 := r1 Tryz.prog
 have r2 := r2 Tryz.prog
 have r3 := r3 Tryz.prog
 clear hm1 hm2 hm3 hok
 unfold CfgD.val
 have KB := Lib.hid (Below.heap1 w (.cells #[.int .i64 c.nodes, .int .i64 c.edges, .int .i64 c.props, .int .i64 c.ids, .int .i64 c.eids] 23))
 by_cases h1 : m1 < 1
 ·
  have HN := Lib.hid (show ¬ c.ok from fun h => (HOK.out.1 h).1 h1)
  have hd : decide (m1 < 1) = true := decide_eq_true h1
  go_enter Tryz.func33, Tryz.ntmps33
  go_wp2
  refine bodyPost_ret (v := .int .i64 1) (by simp [results, Tryz.results33, go_sem]; try rfl) rfl ⟨1, rfl, .inr ⟨rfl, HN.out⟩, KB.out⟩
 have hd : decide (m1 < 1) = false := decide_eq_false h1
 by_cases h2 : 64 < m2
 ·
  have HN := Lib.hid (show ¬ c.ok from fun h => (HOK.out.1 h).2.1 h2)
  have hd2 : decide (64 < m2) = true := decide_eq_true h2
  go_enter Tryz.func33, Tryz.ntmps33
  go_wp2
  refine bodyPost_ret (v := .int .i64 1) (by simp [results, Tryz.results33, go_sem]; try rfl) rfl ⟨1, rfl, .inr ⟨rfl, HN.out⟩, KB.out⟩
 have hd2 : decide (64 < m2) = false := decide_eq_false h2
 by_cases h3 : 64 < m3
 ·
  have HN := Lib.hid (show ¬ c.ok from fun h => (HOK.out.1 h).2.2 h3)
  have hd3 : decide (64 < m3) = true := decide_eq_true h3
  go_enter Tryz.func33, Tryz.ntmps33
  go_wp2
  refine bodyPost_ret (v := .int .i64 1) (by simp [results, Tryz.results33, go_sem]; try rfl) rfl ⟨1, rfl, .inr ⟨rfl, HN.out⟩, KB.out⟩
 have hd3 : decide (64 < m3) = false := decide_eq_false h3
 have HY := Lib.hid (HOK.out.2 ⟨h1, h2, h3⟩)
 go_enter Tryz.func33, Tryz.ntmps33
 go_wp2
 refine bodyPost_ret (v := .int .i64 0) (by simp [results, Tryz.results33, go_sem]; try rfl) rfl ⟨0, rfl, .inl ⟨rfl, HY.out⟩, KB.out⟩
/-- Has an edge an end that is nowhere? -/
def lostE (g : GraphD) (x : EdgeD) : Bool := decide (atOf g.nodes x.frm < 0) || decide (atOf g.nodes x.to < 0)
end Go.Proofs.YtpehmmdbjakkpaaGreat
namespace Go.Proofs.YtpehmmdbjakkpaaGreat
open Go.RowKit Go.Shelf
set_option linter.unusedSimpArgs false
set_option linter.unusedVariables false
theorem nodesOk_iff {g : GraphD} : NodesOk g g.nodes.length ↔ (∀ (i : Nat) (p q : NodeD), g.nodes[i]? = some p → g.nodes[i + 1]? = some q → p.id < q.id) ∧ (∀ x ∈ g.nodes, 1 ≤ x.id ∧ x.id < g.nn) ∧ ∀ x ∈ g.nodes, Rises x.ps x.ps.length := by
 have lt : ∀ {i : Nat} {x : NodeD}, g.nodes[i]? = some x → i < g.nodes.length := fun h => (List.getElem?_eq_some_iff.1 h).1
 constructor
 ·
  intro h
  have h1 : ∀ (i : Nat) (x : NodeD), g.nodes[i]? = some x → 1 ≤ x.id := by
   intro i
   induction i with
   | zero =>
    intro x hx
    have h2 : (0 : Int) < x.id := (h 0 x (lt hx) hx).1
    omega
   | succ i ih =>
    intro x hx
    obtain ⟨y, hy⟩ := getElem?_of_lt (show i < g.nodes.length by have := lt hx; omega)
    have := (h (i + 1) x (lt hx) hx).1
    rw [lastN_succ hy] at this
    have := ih y hy
    omega
  refine ⟨fun i p q hp hq => ?_, fun x hx => ?_, fun x hx => ?_⟩
  ·
   have := (h (i + 1) q (lt hq) hq).1
   rwa [lastN_succ hp] at this
  ·
   obtain ⟨i, hi⟩ := List.mem_iff_getElem?.1 hx
   exact ⟨h1 i x hi, (h i x (lt hi) hi).2.1⟩
  ·
   obtain ⟨i, hi⟩ := List.mem_iff_getElem?.1 hx
   exact (h i x (lt hi) hi).2.2
 ·
  rintro ⟨h1, h2, h3⟩ i x _ hx
  refine ⟨?_, (h2 x (List.mem_of_getElem? hx)).2, h3 x (List.mem_of_getElem? hx)⟩
  cases i with
  | zero =>
   have := (h2 x (List.mem_of_getElem? hx)).1
   show (0 : Int) < x.id
   omega
  | succ i =>
   obtain ⟨y, hy⟩ := getElem?_of_lt (show i < g.nodes.length by have := lt hx; omega)
   rw [lastN_succ hy]
   exact h1 i y x hy hx
theorem edgesOk_iff {g : GraphD} : EdgesOk g g.edges.length ↔ RisesE g.edges g.edges.length ∧ (∀ x ∈ g.edges, 1 ≤ x.id ∧ x.id < g.ne) ∧ ∀ x ∈ g.edges, lostE g x = false := by
 have lt : ∀ {i : Nat} {x : EdgeD}, g.edges[i]? = some x → i < g.edges.length := fun h => (List.getElem?_eq_some_iff.1 h).1
 constructor
 ·
  intro h
  have h1 : ∀ (i : Nat) (x : EdgeD), g.edges[i]? = some x → 1 ≤ x.id := by
   intro i
   induction i with
   | zero =>
    intro x hx
    have h2 : (0 : Int) < x.id := (h 0 x (lt hx) hx).1
    omega
   | succ i ih =>
    intro x hx
    obtain ⟨y, hy⟩ := getElem?_of_lt (show i < g.edges.length by have := lt hx; omega)
    have := (h (i + 1) x (lt hx) hx).1
    rw [lastE_succ hy] at this
    have := ih y hy
    omega
  refine ⟨fun i p q _ hp hq => ?_, fun x hx => ?_, fun x hx => ?_⟩
  ·
   have := (h (i + 1) q (lt hq) hq).1
   rwa [lastE_succ hp] at this
  ·
   obtain ⟨i, hi⟩ := List.mem_iff_getElem?.1 hx
   exact ⟨h1 i x hi, (h i x (lt hi) hi).2.1⟩
  ·
   obtain ⟨i, hi⟩ := List.mem_iff_getElem?.1 hx
   have := (h i x (lt hi) hi).2.2
   unfold lostE
   rw [decide_eq_false (by omega), decide_eq_false (by omega)]
   rfl
 ·
  rintro ⟨h1, h2, h3⟩ i x _ hx
  have h4 := h3 x (List.mem_of_getElem? hx)
  unfold lostE at h4
  simp only [Bool.or_eq_false_iff, decide_eq_false_iff_not] at h4
  refine ⟨?_, (h2 x (List.mem_of_getElem? hx)).2, by omega, by omega⟩
  cases i with
  | zero =>
   have := (h2 x (List.mem_of_getElem? hx)).1
   show (0 : Int) < x.id
   omega
  | succ i =>
   obtain ⟨y, hy⟩ := getElem?_of_lt (show i < g.edges.length by have := lt hx; omega)
   rw [lastE_succ hy]
   exact h1 i y x (lt hx) hy hx
end Go.Proofs.YtpehmmdbjakkpaaGreat


