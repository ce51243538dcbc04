/- The reference's check of a graph: what it lets by. -/
import Derived.Test.YtpehmmdbjakkpaaGreatLiveM
import Derived.Test.YtpehmmdbjakkpaaGreatLibM
namespace Go.Proofs.YtpehmmdbjakkpaaGreat
open Go.RowKit Go.Shelf
set_option linter.unusedSimpArgs false
set_option linter.unusedVariables false
def lastN (xs : List NodeD) : Nat → Int
 | 0 => 0
 | k + 1 => match xs[k]? with
  | some x => x.id
  | none => 0
def lastE (xs : List EdgeD) : Nat → Int
 | 0 => 0
 | k + 1 => match xs[k]? with
  | some x => x.id
  | none => 0
theorem lastN_succ {xs : List NodeD} {k : Nat} {x : NodeD} (h : xs[k]? = some x) : lastN xs (k + 1) = x.id := by simp [lastN, h]
theorem lastE_succ {xs : List EdgeD} {k : Nat} {x : EdgeD} (h : xs[k]? = some x) : lastE xs (k + 1) = x.id := by simp [lastE, h]
def psum (xs : List NodeD) : Nat := (xs.map fun x => x.ps.length).sum
/-- What stands of its head. -/
structure Head (c : CfgD) (g : GraphD) : Prop where
 cfg : c.ok
 nn : 1 ≤ g.nn ∧ g.nn ≤ c.ids + 1
 ne : 1 ≤ g.ne ∧ g.ne ≤ c.eids + 1
 ln : (g.nodes.length : Int) ≤ c.nodes
 le : (g.edges.length : Int) ≤ c.edges
def Rises (ps : List P2) (m : Nat) : Prop := ∀ (i : Nat) (p q : P2), i + 1 < m → ps[i]? = some p → ps[i + 1]? = some q → p.x < q.x
def NodesOk (g : GraphD) (k : Nat) : Prop := ∀ (i : Nat) (x : NodeD), i < k → g.nodes[i]? = some x → lastN g.nodes i < x.id ∧ x.id < g.nn ∧ Rises x.ps x.ps.length
def EdgesOk (g : GraphD) (k : Nat) : Prop := ∀ (i : Nat) (x : EdgeD), i < k → g.edges[i]? = some x → lastE g.edges i < x.id ∧ x.id < g.ne ∧ 0 ≤ atOf g.nodes x.frm ∧ 0 ≤ atOf g.nodes x.to
/-- A graph that may be. -/
structure MayG (c : CfgD) (g : GraphD) : Prop where
 head : Head c g
 nodes : NodesOk g g.nodes.length
 edges : EdgesOk g g.edges.length
 props : (psum g.nodes : Int) ≤ c.props

end Go.Proofs.YtpehmmdbjakkpaaGreat
