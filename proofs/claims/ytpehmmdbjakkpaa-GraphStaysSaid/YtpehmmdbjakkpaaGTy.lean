/- Graphs as plain data: pairs, edges, nodes. -/
import Derived.Test.YtpehmmdbjakkpaaProg
import Derived.Test.YtpehmmdbjakkpaaLib3
import Derived.Test.YtpehmmdbjakkpaaLib2
import Derived.Deep.RegionHeld3
import Derived.KernelRfl
namespace Go.Proofs.Ytpehmmdbjakkpaa
open Go.RowKit
set_option linter.unusedSimpArgs false
set_option linter.unusedVariables false
/-- A pair of numbers: a property, or an end. -/
structure P2 where
  x : Int
  y : Int
deriving DecidableEq
def P2.cells (p : P2) : List Value := [.int .i64 p.x, .int .i64 p.y]
structure EdgeD where
  id : Int
  frm : Int
  to : Int
deriving DecidableEq
def EdgeD.cells (p : EdgeD) : List Value := [.int .i64 p.id, .int .i64 p.frm, .int .i64 p.to]
structure NodeD where
  id : Int
  ps : List P2
deriving DecidableEq
structure GraphD where
  nodes : List NodeD
  edges : List EdgeD
  nn : Int
  ne : Int
deriving DecidableEq
def GraphD.zero : GraphD := ⟨[], [], 0, 0⟩
structure CfgD where
  nodes : Int
  edges : Int
  props : Int
  ids : Int
  eids : Int
def CfgD.val (c : CfgD) : Value := .agg #[.int .i64 c.nodes, .int .i64 c.edges, .int .i64 c.props, .int .i64 c.ids, .int .i64 c.eids]
/-- A node as it lies: its number, and its slice of properties. -/
structure NV where
  id : Int
  A : Option Addr
  n : Nat
  c : Nat
def NV.val (v : NV) : Value := .slice v.A v.n v.c
def NV.cells (v : NV) : List Value := [.int .i64 v.id, v.val]
def tP : Ty P2 := Ty.flat 2 (by decide) P2.cells (fun _ => rfl) (fun x u hu => by
  simp only [P2.cells, List.mem_cons, List.not_mem_nil, or_false] at hu
  rcases hu with rfl | rfl <;> rfl)
def tEdge : Ty EdgeD := Ty.flat 3 (by decide) EdgeD.cells (fun _ => rfl) (fun x u hu => by
  simp only [EdgeD.cells, List.mem_cons, List.not_mem_nil, or_false] at hu
  rcases hu with rfl | rfl | rfl <;> rfl)
def tNV : Ty NV := Ty.flat 2 (by decide) NV.cells (fun _ => rfl) (fun x u hu => by
  simp only [NV.cells, List.mem_cons, List.not_mem_nil, or_false] at hu
  rcases hu with rfl | rfl <;> rfl)
theorem Row.atP {w : World} {S : Nat → Prop} {A : Option Addr} {n c : Nat} {xs : List P2} (h : Row tP w S (.slice A n c) xs) {j : Nat} {x : P2} (hj : xs[j]? = some x) :
    ∃ b off, A = some ⟨b, off, none⟩ ∧ S b ∧ b < w.heap.size ∧ w.cell? ⟨b, off + j * 2, none⟩ = some (.int .i64 x.x) ∧ w.cell? ⟨b, off + j * 2 + 1, none⟩ = some (.int .i64 x.y) := by
  obtain ⟨b, off, cs, hA, hS, hl, hk, hr⟩ := h.at hj
  have hk' : cs = x.cells := hk
  subst hk'
  exact ⟨b, off, hA, hS, hl, range2 hr⟩
theorem Row.atEdge {w : World} {S : Nat → Prop} {A : Option Addr} {n c : Nat} {xs : List EdgeD} (h : Row tEdge w S (.slice A n c) xs) {j : Nat} {x : EdgeD} (hj : xs[j]? = some x) :
    ∃ b off, A = some ⟨b, off, none⟩ ∧ S b ∧ b < w.heap.size ∧ w.cell? ⟨b, off + j * 3, none⟩ = some (.int .i64 x.id) ∧ w.cell? ⟨b, off + j * 3 + 1, none⟩ = some (.int .i64 x.frm) ∧ w.cell? ⟨b, off + j * 3 + 2, none⟩ = some (.int .i64 x.to) := by
  obtain ⟨b, off, cs, hA, hS, hl, hk, hr⟩ := h.at hj
  have hk' : cs = x.cells := hk
  subst hk'
  exact ⟨b, off, hA, hS, hl, range3 hr⟩
theorem Row.atNV {w : World} {S : Nat → Prop} {A : Option Addr} {n c : Nat} {xs : List NV} (h : Row tNV w S (.slice A n c) xs) {j : Nat} {x : NV} (hj : xs[j]? = some x) :
    ∃ b off, A = some ⟨b, off, none⟩ ∧ S b ∧ b < w.heap.size ∧ w.cell? ⟨b, off + j * 2, none⟩ = some (.int .i64 x.id) ∧ w.cell? ⟨b, off + j * 2 + 1, none⟩ = some (.slice x.A x.n x.c) := by
  obtain ⟨b, off, cs, hA, hS, hl, hk, hr⟩ := h.at hj
  have hk' : cs = x.cells := hk
  subst hk'
  exact ⟨b, off, hA, hS, hl, range2 hr⟩
/-- The nodes, as they lie. -/
structure NVs (w : World) (S : Nat → Prop) (nvs : List NV) (xs : List NodeD) : Prop where
  len : nvs.length = xs.length
  each : ∀ (j : Nat) (v : NV) (x : NodeD), nvs[j]? = some v → xs[j]? = some x → v.id = x.id ∧ Row tP w S (.slice v.A v.n v.c) x.ps
section
variable {w w' : World} {S S' : Nat → Prop} {nvs : List NV} {xs : List NodeD}
theorem NVs.nil (w : World) (S : Nat → Prop) : NVs w S [] [] := ⟨rfl, fun j v x h => by simp at h⟩
theorem NVs.mono (h : NVs w S nvs xs) (hs : ∀ k, S k → k < w.heap.size → S' k) : NVs w S' nvs xs := ⟨h.len, fun j v x h1 h2 => ⟨(h.each j v x h1 h2).1, (h.each j v x h1 h2).2.mono hs⟩⟩
theorem NVs.move (h : NVs w S nvs xs) (hs : Same S w w') : NVs w' S nvs xs := ⟨h.len, fun j v x h1 h2 => ⟨(h.each j v x h1 h2).1, (h.each j v x h1 h2).2.move hs⟩⟩
theorem NVs.below (h : NVs w S nvs xs) (hb : Below w.heap.size w w') : NVs w' S nvs xs := h.move (.of_below hb)
theorem NVs.at (h : NVs w S nvs xs) {j : Nat} {x : NodeD} (hx : xs[j]? = some x) : ∃ v, nvs[j]? = some v ∧ v.id = x.id ∧ Row tP w S (.slice v.A v.n v.c) x.ps := by
  have hj : j < nvs.length := by rw [h.len]; exact (List.getElem?_eq_some_iff.1 hx).1
  refine ⟨nvs[j], List.getElem?_eq_getElem hj, ?_⟩
  exact h.each j _ x (List.getElem?_eq_getElem hj) hx
end
/-- A graph's two slices. -/
def Gr (w : World) (S : Nat → Prop) (g : GraphD) (vn ve : Value) : Prop := (∃ nvs, Row tNV w S vn nvs ∧ NVs w S nvs g.nodes) ∧ Row tEdge w S ve g.edges
section
variable {w w' : World} {S S' : Nat → Prop} {g : GraphD} {vn ve : Value}
theorem Gr.mono (h : Gr w S g vn ve) (hs : ∀ k, S k → k < w.heap.size → S' k) : Gr w S' g vn ve := by
  obtain ⟨⟨nvs, h1, h2⟩, h3⟩ := h
  exact ⟨⟨nvs, h1.mono hs, h2.mono hs⟩, h3.mono hs⟩
theorem Gr.move (h : Gr w S g vn ve) (hs : Same S w w') : Gr w' S g vn ve := by
  obtain ⟨⟨nvs, h1, h2⟩, h3⟩ := h
  exact ⟨⟨nvs, h1.move hs, h2.move hs⟩, h3.move hs⟩
theorem Gr.below (h : Gr w S g vn ve) (hb : Below w.heap.size w w') : Gr w' S g vn ve := h.move (.of_below hb)
theorem Gr.bound (h : Gr w S g vn ve) : Gr w (fun k => S k ∧ k < w.heap.size) g vn ve := h.mono fun _ hk hl => ⟨hk, hl⟩
theorem Gr.zero (w : World) (S : Nat → Prop) (n m : Int) : Gr w S ⟨[], [], n, m⟩ (.slice none 0 0) (.slice none 0 0) := ⟨⟨[], Row.nil _ _ _, NVs.nil _ _⟩, Row.nil _ _ _⟩
theorem Gr.slices (h : Gr w S g vn ve) : (∃ A c, vn = .slice A g.nodes.length c) ∧ (∃ A c, ve = .slice A g.edges.length c) := by
  obtain ⟨⟨nvs, h1, h2⟩, h3⟩ := h
  rw [← h2.len]
  exact ⟨h1.slice, h3.slice⟩
theorem Gr.len (h : Gr w S g vn ve) : g.nodes.length ≤ maxLen ∧ g.edges.length ≤ maxLen := by
  obtain ⟨⟨nvs, h1, h2⟩, h3⟩ := h
  rw [← h2.len]
  exact ⟨h1.len, h3.len⟩
theorem Gr.atN {A : Option Addr} {n c : Nat} (h : Gr w S g (.slice A n c) ve) {j : Nat} {x : NodeD} (hj : g.nodes[j]? = some x) :
    ∃ b off a d, A = some ⟨b, off, none⟩ ∧ S b ∧ b < w.heap.size ∧ Row tP w S (.slice a x.ps.length d) x.ps ∧ w.cell? ⟨b, off + j * 2, none⟩ = some (.int .i64 x.id) ∧ w.cell? ⟨b, off + j * 2 + 1, none⟩ = some (.slice a x.ps.length d) := by
  obtain ⟨⟨nvs, h1, h2⟩, h3⟩ := h
  obtain ⟨v, hv, hid, hr⟩ := h2.at hj
  obtain ⟨b, off, hA, hS, hl, c0, c1⟩ := h1.atNV hv
  have hn : v.n = x.ps.length := hr.n_eq.1
  rw [hn] at hr c1
  rw [hid] at c0
  exact ⟨b, off, _, _, hA, hS, hl, hr, c0, c1⟩
theorem Gr.atE {A : Option Addr} {n c : Nat} (h : Gr w S g vn (.slice A n c)) {j : Nat} {x : EdgeD} (hj : g.edges[j]? = some x) :
    ∃ b off, A = some ⟨b, off, none⟩ ∧ S b ∧ b < w.heap.size ∧ w.cell? ⟨b, off + j * 3, none⟩ = some (.int .i64 x.id) ∧ w.cell? ⟨b, off + j * 3 + 1, none⟩ = some (.int .i64 x.frm) ∧ w.cell? ⟨b, off + j * 3 + 2, none⟩ = some (.int .i64 x.to) := h.2.atEdge hj
end
def GraphD.small (g : GraphD) : Prop := g.nodes.length ≤ 1000000 ∧ g.edges.length ≤ 1000000 ∧ ∀ x ∈ g.nodes, x.ps.length ≤ 1000000
end Go.Proofs.Ytpehmmdbjakkpaa
