/- An edge is seen from both its ends, and from no other node: in plain data. -/
import Derived.Test.YtpehmmdbjakkpaaGreatRefCheck
namespace Go.Proofs.YtpehmmdbjakkpaaGreat
open Go.RowKit Go.Shelf
set_option linter.unusedSimpArgs false
set_option linter.unusedVariables false
theorem asc_edges {g : GraphD} (h : EdgesOk g g.edges.length) : ∀ (d i : Nat) (e f : EdgeD), g.edges[i]? = some e → g.edges[i + d + 1]? = some f → e.id < f.id := by
 intro d
 induction d with
 | zero =>
  intro i e f he hf
  have h1 := (h (i + 1) f (List.getElem?_eq_some_iff.1 hf).1 hf).1
  rw [lastE_succ he] at h1
  exact h1
 | succ d ih =>
  intro i e f he hf
  have hl : i + d + 1 < g.edges.length := by have := (List.getElem?_eq_some_iff.1 hf).1; omega
  have h1 := ih i e _ he (List.getElem?_eq_getElem hl)
  have h2 := (h (i + d + 1 + 1) f (List.getElem?_eq_some_iff.1 hf).1 hf).1
  rw [lastE_succ (List.getElem?_eq_getElem hl)] at h2
  omega
theorem asc_nodes {g : GraphD} (h : NodesOk g g.nodes.length) : ∀ (d i : Nat) (e f : NodeD), g.nodes[i]? = some e → g.nodes[i + d + 1]? = some f → e.id < f.id := by
 intro d
 induction d with
 | zero =>
  intro i e f he hf
  have h1 := (h (i + 1) f (List.getElem?_eq_some_iff.1 hf).1 hf).1
  rw [lastN_succ he] at h1
  exact h1
 | succ d ih =>
  intro i e f he hf
  have hl : i + d + 1 < g.nodes.length := by have := (List.getElem?_eq_some_iff.1 hf).1; omega
  have h1 := ih i e _ he (List.getElem?_eq_getElem hl)
  have h2 := (h (i + d + 1 + 1) f (List.getElem?_eq_some_iff.1 hf).1 hf).1
  rw [lastN_succ (List.getElem?_eq_getElem hl)] at h2
  omega
/-- Things that rise by their numbers. -/
def AscBy {α : Type} (f : α → Int) (l : List α) : Prop := ∀ (i j : Nat) (x y : α), i < j → l[i]? = some x → l[j]? = some y → f x < f y
theorem AscBy.tail {α : Type} {f : α → Int} {a : α} {l : List α} (h : AscBy f (a :: l)) : AscBy f l := fun i j x y hij hx hy => h (i + 1) (j + 1) x y (by omega) (by simpa using hx) (by simpa using hy)
theorem AscBy.head {α : Type} {f : α → Int} {a x : α} {l : List α} (h : AscBy f (a :: l)) (hx : x ∈ l) : f a < f x := by
 obtain ⟨i, hi⟩ := List.mem_iff_getElem?.1 hx
 exact h 0 (i + 1) a x (by omega) rfl (by simpa using hi)
theorem ascE {g : GraphD} (h : EdgesOk g g.edges.length) : AscBy EdgeD.id g.edges := fun i j x y hij hx hy => asc_edges h (j - i - 1) i x y hx (by rw [show i + (j - i - 1) + 1 = j by omega]; exact hy)
theorem ascN {g : GraphD} (h : NodesOk g g.nodes.length) : AscBy NodeD.id g.nodes := fun i j x y hij hx hy => asc_nodes h (j - i - 1) i x y hx (by rw [show i + (j - i - 1) + 1 = j by omega]; exact hy)
theorem at_mem {xs : List NodeD} {n : Int} (h : 0 ≤ atOf xs n) : ∃ x ∈ xs, x.id = n := by
 rcases idxB_cases (fun x : NodeD => x.id == n) xs with ⟨e, _⟩ | ⟨k, x, _, hx, hp, _⟩
 ·
  unfold atOf at h; rw [e] at h; omega
 ·
  exact ⟨x, List.mem_of_getElem? hx, by simpa using hp⟩
theorem at_of_mem {xs : List NodeD} {i : Nat} {x : NodeD} (h : xs[i]? = some x) : 0 ≤ atOf xs x.id := by
 rcases idxB_cases (fun y : NodeD => y.id == x.id) xs with ⟨e, hno⟩ | ⟨k, y, e, _, _, _⟩
 ·
  have := hno i x h; simp at this
 ·
  unfold atOf; rw [e]; omega
end Go.Proofs.YtpehmmdbjakkpaaGreat
