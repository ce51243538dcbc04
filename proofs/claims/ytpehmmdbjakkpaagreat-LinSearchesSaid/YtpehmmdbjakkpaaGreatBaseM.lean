/- Graphs as plain data: pairs, edges, nodes. slices.Clone, at the graph's types. What the call owns: set, read, held. graph.own: a graph's own copy. The closures that compare with one captured number. slices.IndexFunc, at nodes and at edges, whatever the closure. clear(s[i:]), and what is owned ahead of it. slices.DeleteFunc, at nodes and at edges, whatever the closure. graph.without, at nodes and at edges, whatever the closure. A graph in a box of the call's own. -/
import Derived.Test.YtpehmmdbjakkpaaGreatProg
import Derived.Test.YtpehmmdbjakkpaaGreatLibM
import Derived.Deep.RegionHeld3
import Derived.KernelRfl
import Derived.Lib.LazyBuf
import Derived.Shelf.Abstract
import Derived.Lib.SliceRun
import Derived.Laws.IdiomCopy
namespace Go.Proofs.YtpehmmdbjakkpaaGreat
open Go.RowKit
set_option linter.unusedSimpArgs false
set_option linter.unusedVariables false
/-- A pair of numbers: a property, or an end. -/
structure P2 where
 x : Int
 y : Int
deriving DecidableEq
def P2.cells (p : P2) : List Value := [.int .i64 p.x, .int .i64 p.y]
structure EdgeD where
 id : Int
 frm : Int
 to : Int
deriving DecidableEq
def EdgeD.cells (p : EdgeD) : List Value := [.int .i64 p.id, .int .i64 p.frm, .int .i64 p.to]
structure NodeD where
 id : Int
 ps : List P2
deriving DecidableEq
structure GraphD where
 nodes : List NodeD
 edges : List EdgeD
 nn : Int
 ne : Int
deriving DecidableEq
def GraphD.zero : GraphD := ⟨[], [], 0, 0⟩
structure CfgD where
 nodes : Int
 edges : Int
 props : Int
 ids : Int
 eids : Int
def CfgD.val (c : CfgD) : Value := .agg #[.int .i64 c.nodes, .int .i64 c.edges, .int .i64 c.props, .int .i64 c.ids, .int .i64 c.eids]
/-- A node as it lies: its number, and its slice of properties. -/
structure NV where
 id : Int
 A : Option Addr
 n : Nat
 c : Nat
def NV.val (v : NV) : Value := .slice v.A v.n v.c
def NV.cells (v : NV) : List Value := [.int .i64 v.id, v.val]
def tP : Ty P2 := Ty.flat 2 (by decide) P2.cells (fun _ => rfl) (fun x u hu => by
 simp only [P2.cells, List.mem_cons, List.not_mem_nil, or_false] at hu
 rcases hu with rfl | rfl <;> rfl)
def tEdge : Ty EdgeD := Ty.flat 3 (by decide) EdgeD.cells (fun _ => rfl) (fun x u hu => by
 simp only [EdgeD.cells, List.mem_cons, List.not_mem_nil, or_false] at hu
 rcases hu with rfl | rfl | rfl <;> rfl)
def tNV : Ty NV := Ty.flat 2 (by decide) NV.cells (fun _ => rfl) (fun x u hu => by
 simp only [NV.cells, List.mem_cons, List.not_mem_nil, or_false] at hu
 rcases hu with rfl | rfl <;> rfl)
theorem Row.atP {w : World} {S : Nat → Prop} {A : Option Addr} {n c : Nat} {xs : List P2} (h : Row tP w S (.slice A n c) xs) {j : Nat} {x : P2} (hj : xs[j]? = some x) :
  ∃ b off, A = some ⟨b, off, none⟩ ∧ S b ∧ b < w.heap.size ∧ w.cell? ⟨b, off + j * 2, none⟩ = some (.int .i64 x.x) ∧ w.cell? ⟨b, off + j * 2 + 1, none⟩ = some (.int .i64 x.y) := by
 obtain ⟨b, off, cs, hA, hS, hl, hk, hr⟩ := h.at hj
 have hk' : cs = x.cells := hk
 subst hk'
 exact ⟨b, off, hA, hS, hl, range2 hr⟩
theorem Row.atEdge {w : World} {S : Nat → Prop} {A : Option Addr} {n c : Nat} {xs : List EdgeD} (h : Row tEdge w S (.slice A n c) xs) {j : Nat} {x : EdgeD} (hj : xs[j]? = some x) :
  ∃ b off, A = some ⟨b, off, none⟩ ∧ S b ∧ b < w.heap.size ∧ w.cell? ⟨b, off + j * 3, none⟩ = some (.int .i64 x.id) ∧ w.cell? ⟨b, off + j * 3 + 1, none⟩ = some (.int .i64 x.frm) ∧ w.cell? ⟨b, off + j * 3 + 2, none⟩ = some (.int .i64 x.to) := by
 obtain ⟨b, off, cs, hA, hS, hl, hk, hr⟩ := h.at hj
 have hk' : cs = x.cells := hk
 subst hk'
 exact ⟨b, off, hA, hS, hl, range3 hr⟩
theorem Row.atNV {w : World} {S : Nat → Prop} {A : Option Addr} {n c : Nat} {xs : List NV} (h : Row tNV w S (.slice A n c) xs) {j : Nat} {x : NV} (hj : xs[j]? = some x) :
  ∃ b off, A = some ⟨b, off, none⟩ ∧ S b ∧ b < w.heap.size ∧ w.cell? ⟨b, off + j * 2, none⟩ = some (.int .i64 x.id) ∧ w.cell? ⟨b, off + j * 2 + 1, none⟩ = some (.slice x.A x.n x.c) := by
 obtain ⟨b, off, cs, hA, hS, hl, hk, hr⟩ := h.at hj
 have hk' : cs = x.cells := hk
 subst hk'
 exact ⟨b, off, hA, hS, hl, range2 hr⟩
/-- The nodes, as they lie. -/
structure NVs (w : World) (S : Nat → Prop) (nvs : List NV) (xs : List NodeD) : Prop where
 len : nvs.length = xs.length
 each : ∀ (j : Nat) (v : NV) (x : NodeD), nvs[j]? = some v → xs[j]? = some x → v.id = x.id ∧ Row tP w S (.slice v.A v.n v.c) x.ps
section
variable {w w' : World} {S S' : Nat → Prop} {nvs : List NV} {xs : List NodeD}
theorem NVs.nil (w : World) (S : Nat → Prop) : NVs w S [] [] := ⟨rfl, fun j v x h => by simp at h⟩
theorem NVs.mono (h : NVs w S nvs xs) (hs : ∀ k, S k → k < w.heap.size → S' k) : NVs w S' nvs xs := ⟨h.len, fun j v x h1 h2 => ⟨(h.each j v x h1 h2).1, (h.each j v x h1 h2).2.mono hs⟩⟩
theorem NVs.move (h : NVs w S nvs xs) (hs : Same S w w') : NVs w' S nvs xs := ⟨h.len, fun j v x h1 h2 => ⟨(h.each j v x h1 h2).1, (h.each j v x h1 h2).2.move hs⟩⟩
theorem NVs.below (h : NVs w S nvs xs) (hb : Below w.heap.size w w') : NVs w' S nvs xs := h.move (.of_below hb)
theorem NVs.at (h : NVs w S nvs xs) {j : Nat} {x : NodeD} (hx : xs[j]? = some x) : ∃ v, nvs[j]? = some v ∧ v.id = x.id ∧ Row tP w S (.slice v.A v.n v.c) x.ps := by
 have hj : j < nvs.length := by rw [h.len]; exact (List.getElem?_eq_some_iff.1 hx).1
 refine ⟨nvs[j], List.getElem?_eq_getElem hj, ?_⟩
 exact h.each j _ x (List.getElem?_eq_getElem hj) hx
end
/-- A graph's two slices. -/
def Gr (w : World) (S : Nat → Prop) (g : GraphD) (vn ve : Value) : Prop := (∃ nvs, Row tNV w S vn nvs ∧ NVs w S nvs g.nodes) ∧ Row tEdge w S ve g.edges
section
variable {w w' : World} {S S' : Nat → Prop} {g : GraphD} {vn ve : Value}
theorem Gr.mono (h : Gr w S g vn ve) (hs : ∀ k, S k → k < w.heap.size → S' k) : Gr w S' g vn ve := by
 obtain ⟨⟨nvs, h1, h2⟩, h3⟩ := h
 exact ⟨⟨nvs, h1.mono hs, h2.mono hs⟩, h3.mono hs⟩
theorem Gr.move (h : Gr w S g vn ve) (hs : Same S w w') : Gr w' S g vn ve := by
 obtain ⟨⟨nvs, h1, h2⟩, h3⟩ := h
 exact ⟨⟨nvs, h1.move hs, h2.move hs⟩, h3.move hs⟩
theorem Gr.below (h : Gr w S g vn ve) (hb : Below w.heap.size w w') : Gr w' S g vn ve := h.move (.of_below hb)
theorem Gr.bound (h : Gr w S g vn ve) : Gr w (fun k => S k ∧ k < w.heap.size) g vn ve := h.mono fun _ hk hl => ⟨hk, hl⟩
theorem Gr.zero (w : World) (S : Nat → Prop) (n m : Int) : Gr w S ⟨[], [], n, m⟩ (.slice none 0 0) (.slice none 0 0) := ⟨⟨[], Row.nil _ _ _, NVs.nil _ _⟩, Row.nil _ _ _⟩
theorem Gr.slices (h : Gr w S g vn ve) : (∃ A c, vn = .slice A g.nodes.length c) ∧ (∃ A c, ve = .slice A g.edges.length c) := by
 obtain ⟨⟨nvs, h1, h2⟩, h3⟩ := h
 rw [← h2.len]
 exact ⟨h1.slice, h3.slice⟩
theorem Gr.len (h : Gr w S g vn ve) : g.nodes.length ≤ maxLen ∧ g.edges.length ≤ maxLen := by
 obtain ⟨⟨nvs, h1, h2⟩, h3⟩ := h
 rw [← h2.len]
 exact ⟨h1.len, h3.len⟩
theorem Gr.atN {A : Option Addr} {n c : Nat} (h : Gr w S g (.slice A n c) ve) {j : Nat} {x : NodeD} (hj : g.nodes[j]? = some x) :
  ∃ b off a d, A = some ⟨b, off, none⟩ ∧ S b ∧ b < w.heap.size ∧ Row tP w S (.slice a x.ps.length d) x.ps ∧ w.cell? ⟨b, off + j * 2, none⟩ = some (.int .i64 x.id) ∧ w.cell? ⟨b, off + j * 2 + 1, none⟩ = some (.slice a x.ps.length d) := by
 obtain ⟨⟨nvs, h1, h2⟩, h3⟩ := h
 obtain ⟨v, hv, hid, hr⟩ := h2.at hj
 obtain ⟨b, off, hA, hS, hl, c0, c1⟩ := h1.atNV hv
 have hn : v.n = x.ps.length := hr.n_eq.1
 rw [hn] at hr c1
 rw [hid] at c0
 exact ⟨b, off, _, _, hA, hS, hl, hr, c0, c1⟩
theorem Gr.atE {A : Option Addr} {n c : Nat} (h : Gr w S g vn (.slice A n c)) {j : Nat} {x : EdgeD} (hj : g.edges[j]? = some x) :
  ∃ b off, A = some ⟨b, off, none⟩ ∧ S b ∧ b < w.heap.size ∧ w.cell? ⟨b, off + j * 3, none⟩ = some (.int .i64 x.id) ∧ w.cell? ⟨b, off + j * 3 + 1, none⟩ = some (.int .i64 x.frm) ∧ w.cell? ⟨b, off + j * 3 + 2, none⟩ = some (.int .i64 x.to) := h.2.atEdge hj
end
def GraphD.small (g : GraphD) : Prop := g.nodes.length ≤ 1000000 ∧ g.edges.length ≤ 1000000 ∧ ∀ x ∈ g.nodes, x.ps.length ≤ 1000000
end Go.Proofs.YtpehmmdbjakkpaaGreat
namespace Go.Proofs.YtpehmmdbjakkpaaGreat
open Go.RowKit
set_option linter.unusedSimpArgs false
set_option linter.unusedVariables false
theorem Below.heap1 (w : World) (o : Obj) : Below w.heap.size w (w.alloc o) := (Below.refl _ _).alloc (Nat.le_refl _) o
theorem elemPairs : ElemOf Tryz.prog 47 92 tP.sz 16 (.agg #[.int .i64 0, .int .i64 0]) := ⟨Tryz.underlying47, by kernel_rfl, rfl⟩
set_option maxHeartbeats 2000000 in
theorem clonePairs_calls (w : World) (S : Nat → Prop) (v : Value) (l : List P2) (h : Row tP w S v l) (hlen : l.length ≤ 1000000) : Calls Tryz.prog 79 #[v] w (RetOwn tP 92 w l) := by
 have hb := h.bound
 obtain ⟨A, c, rfl⟩ := h.slice
 obtain ⟨h1, h2, h3, h4⟩ := h.n_eq
 cases A with
 | none =>
  obtain rfl := h4 rfl
  have hl : l = [] := List.eq_nil_of_length_eq_zero (by omega)
  subst hl
  clear h hb
  have hq := fun W : World => run_eql_slice_nil (P := Tryz.prog) W 47 _ none 0 0 Tryz.underlying47
  go_enter Tryz.func79, Tryz.ntmps79
  go_wp2
  go_ret
  exact RetOwn.mk (Own.nil _ _ _ _) (Below.refl _ _)
 | some ad =>
  have H := Lib.hid hb
  clear h hb h1 h2 h3 h4
  have ho : Own tP 92 (w.alloc (.cells #[] 92)) (fun k => True) (.slice (some ⟨w.heap.size, 0, none⟩) 0 0) [] := ⟨fun _ _ => trivial, [], ⟨rfl, .inr ⟨w.heap.size, 0, #[], rfl, Nat.zero_le _, heap_alloc_new w _, Nat.le_refl _, by unfold maxLen; omega, rfl, rfl⟩⟩, fun j x hj => by simp at hj⟩
  have HO := Lib.hid ho
  have hr := H.out.below (Below.heap1 w (.cells #[] 92))
  have HRR := Lib.hid hr
  clear ho hr
  have hq := fun W : World => run_eql_slice_nil (P := Tryz.prog) W 47 _ (some ad) l.length c Tryz.underlying47
  go_enter Tryz.func79, Tryz.ntmps79
  go_wp2_with (at_builtin; refine wpList_own_append (ty := tP) (W := w.alloc (.cells #[] 92)) (S := fun k => True) (Sy := fun k => S k ∧ k < w.heap.size) (v := .slice (some ⟨w.heap.size, 0, none⟩) 0 0) (xs := []) (ys := l) rfl _ _ 47 92 16 _ rfl elemPairs rfl HO.out (some ad) l.length c rfl HRR.out rfl ?b1 ?b2 trivial (fun k h _ => ⟨trivial, fun e => Nat.ne_of_lt h.2 (Option.some.inj e).symm⟩) ?_)
  case b1 => simp; omega
  case b2 => unfold maxLen; simp; omega
  intro v2 w2 ho2 hg2 hor2
  have hb2 : Below w.heap.size w w2 := below_of_grown (Below.heap1 w (.cells #[] 92)) hg2 (fun k hk => Nat.le_of_eq (Option.some.inj hk))
  have hlt2 := ho2.lt
  have ho3 : Own tP 92 w2 (fun k => w.heap.size ≤ k) v2 l := by
   obtain ⟨_, inner, r1, r2⟩ := ho2
   refine ⟨fun k hk => ?_, inner, r1, fun j x hj => r2 j x hj⟩
   rcases hor2 with h | h
   ·
    exact Nat.le_of_eq (Option.some.inj (h.symm.trans hk))
   ·
    have e := Option.some.inj (h.symm.trans hk); omega
  have HO3 := Lib.hid ho3
  have HB2 := Lib.hid hb2
  clear ho2 hg2 hb2 hor2
  go_wp2
  go_ret
  exact RetOwn.mk HO3.out HB2.out
theorem elemEdges : ElemOf Tryz.prog 29 75 tEdge.sz 24 (.agg #[.int .i64 0, .int .i64 0, .int .i64 0]) := ⟨Tryz.underlying29, by kernel_rfl, rfl⟩
set_option maxHeartbeats 2000000 in
theorem cloneEdges_calls (w : World) (S : Nat → Prop) (v : Value) (l : List EdgeD) (h : Row tEdge w S v l) (hlen : l.length ≤ 1000000) : Calls Tryz.prog 101 #[v] w (RetOwn tEdge 75 w l) := by
 have hb := h.bound
 obtain ⟨A, c, rfl⟩ := h.slice
 obtain ⟨h1, h2, h3, h4⟩ := h.n_eq
 cases A with
 | none =>
  obtain rfl := h4 rfl
  have hl : l = [] := List.eq_nil_of_length_eq_zero (by omega)
  subst hl
  clear h hb
  have hq := fun W : World => run_eql_slice_nil (P := Tryz.prog) W 29 _ none 0 0 Tryz.underlying29
  go_enter Tryz.func101, Tryz.ntmps101
  go_wp2
  go_ret
  exact RetOwn.mk (Own.nil _ _ _ _) (Below.refl _ _)
 | some ad =>
  have H := Lib.hid hb
  clear h hb h1 h2 h3 h4
  have ho : Own tEdge 75 (w.alloc (.cells #[] 75)) (fun k => True) (.slice (some ⟨w.heap.size, 0, none⟩) 0 0) [] := ⟨fun _ _ => trivial, [], ⟨rfl, .inr ⟨w.heap.size, 0, #[], rfl, Nat.zero_le _, heap_alloc_new w _, Nat.le_refl _, by unfold maxLen; omega, rfl, rfl⟩⟩, fun j x hj => by simp at hj⟩
  have HO := Lib.hid ho
  have hr := H.out.below (Below.heap1 w (.cells #[] 75))
  have HRR := Lib.hid hr
  clear ho hr
  have hq := fun W : World => run_eql_slice_nil (P := Tryz.prog) W 29 _ (some ad) l.length c Tryz.underlying29
  go_enter Tryz.func101, Tryz.ntmps101
  go_wp2_with (at_builtin; refine wpList_own_append (ty := tEdge) (W := w.alloc (.cells #[] 75)) (S := fun k => True) (Sy := fun k => S k ∧ k < w.heap.size) (v := .slice (some ⟨w.heap.size, 0, none⟩) 0 0) (xs := []) (ys := l) rfl _ _ 29 75 24 _ rfl elemEdges rfl HO.out (some ad) l.length c rfl HRR.out rfl ?b1 ?b2 trivial (fun k h _ => ⟨trivial, fun e => Nat.ne_of_lt h.2 (Option.some.inj e).symm⟩) ?_)
  case b1 => simp; omega
  case b2 => unfold maxLen; simp; omega
  intro v2 w2 ho2 hg2 hor2
  have hb2 : Below w.heap.size w w2 := below_of_grown (Below.heap1 w (.cells #[] 75)) hg2 (fun k hk => Nat.le_of_eq (Option.some.inj hk))
  have hlt2 := ho2.lt
  have ho3 : Own tEdge 75 w2 (fun k => w.heap.size ≤ k) v2 l := by
   obtain ⟨_, inner, r1, r2⟩ := ho2
   refine ⟨fun k hk => ?_, inner, r1, fun j x hj => r2 j x hj⟩
   rcases hor2 with h | h
   ·
    exact Nat.le_of_eq (Option.some.inj (h.symm.trans hk))
   ·
    have e := Option.some.inj (h.symm.trans hk); omega
  have HO3 := Lib.hid ho3
  have HB2 := Lib.hid hb2
  clear ho2 hg2 hb2 hor2
  go_wp2
  go_ret
  exact RetOwn.mk HO3.out HB2.out
theorem elemNodes : ElemOf Tryz.prog 28 72 tNV.sz 32 (.agg #[.int .i64 0, .slice none 0 0]) := ⟨Tryz.underlying28, by kernel_rfl, rfl⟩
set_option maxHeartbeats 2000000 in
theorem cloneNodes_calls (w : World) (S : Nat → Prop) (v : Value) (l : List NV) (h : Row tNV w S v l) (hlen : l.length ≤ 1000000) : Calls Tryz.prog 100 #[v] w (RetOwn tNV 72 w l) := by
 have hb := h.bound
 obtain ⟨A, c, rfl⟩ := h.slice
 obtain ⟨h1, h2, h3, h4⟩ := h.n_eq
 cases A with
 | none =>
  obtain rfl := h4 rfl
  have hl : l = [] := List.eq_nil_of_length_eq_zero (by omega)
  subst hl
  clear h hb
  have hq := fun W : World => run_eql_slice_nil (P := Tryz.prog) W 28 _ none 0 0 Tryz.underlying28
  go_enter Tryz.func100, Tryz.ntmps100
  go_wp2
  go_ret
  exact RetOwn.mk (Own.nil _ _ _ _) (Below.refl _ _)
 | some ad =>
  have H := Lib.hid hb
  clear h hb h1 h2 h3 h4
  have ho : Own tNV 72 (w.alloc (.cells #[] 72)) (fun k => True) (.slice (some ⟨w.heap.size, 0, none⟩) 0 0) [] := ⟨fun _ _ => trivial, [], ⟨rfl, .inr ⟨w.heap.size, 0, #[], rfl, Nat.zero_le _, heap_alloc_new w _, Nat.le_refl _, by unfold maxLen; omega, rfl, rfl⟩⟩, fun j x hj => by simp at hj⟩
  have HO := Lib.hid ho
  have hr := H.out.below (Below.heap1 w (.cells #[] 72))
  have HRR := Lib.hid hr
  clear ho hr
  have hq := fun W : World => run_eql_slice_nil (P := Tryz.prog) W 28 _ (some ad) l.length c Tryz.underlying28
  go_enter Tryz.func100, Tryz.ntmps100
  go_wp2_with (at_builtin; refine wpList_own_append (ty := tNV) (W := w.alloc (.cells #[] 72)) (S := fun k => True) (Sy := fun k => S k ∧ k < w.heap.size) (v := .slice (some ⟨w.heap.size, 0, none⟩) 0 0) (xs := []) (ys := l) rfl _ _ 28 72 32 _ rfl elemNodes rfl HO.out (some ad) l.length c rfl HRR.out rfl ?b1 ?b2 trivial (fun k h _ => ⟨trivial, fun e => Nat.ne_of_lt h.2 (Option.some.inj e).symm⟩) ?_)
  case b1 => simp; omega
  case b2 => unfold maxLen; simp; omega
  intro v2 w2 ho2 hg2 hor2
  have hb2 : Below w.heap.size w w2 := below_of_grown (Below.heap1 w (.cells #[] 72)) hg2 (fun k hk => Nat.le_of_eq (Option.some.inj hk))
  have hlt2 := ho2.lt
  have ho3 : Own tNV 72 w2 (fun k => w.heap.size ≤ k) v2 l := by
   obtain ⟨_, inner, r1, r2⟩ := ho2
   refine ⟨fun k hk => ?_, inner, r1, fun j x hj => r2 j x hj⟩
   rcases hor2 with h | h
   ·
    exact Nat.le_of_eq (Option.some.inj (h.symm.trans hk))
   ·
    have e := Option.some.inj (h.symm.trans hk); omega
  have HO3 := Lib.hid ho3
  have HB2 := Lib.hid hb2
  clear ho2 hg2 hb2 hor2
  go_wp2
  go_ret
  exact RetOwn.mk HO3.out HB2.out
theorem elemEnds : ElemOf Tryz.prog 48 131 tP.sz 16 (.agg #[.int .i64 0, .int .i64 0]) := ⟨Tryz.underlying48, by kernel_rfl, rfl⟩
set_option maxHeartbeats 2000000 in
theorem cloneEnds_calls (w : World) (S : Nat → Prop) (v : Value) (l : List P2) (h : Row tP w S v l) (hlen : l.length ≤ 1000000) : Calls Tryz.prog 80 #[v] w (RetOwn tP 131 w l) := by
 have hb := h.bound
 obtain ⟨A, c, rfl⟩ := h.slice
 obtain ⟨h1, h2, h3, h4⟩ := h.n_eq
 cases A with
 | none =>
  obtain rfl := h4 rfl
  have hl : l = [] := List.eq_nil_of_length_eq_zero (by omega)
  subst hl
  clear h hb
  have hq := fun W : World => run_eql_slice_nil (P := Tryz.prog) W 48 _ none 0 0 Tryz.underlying48
  go_enter Tryz.func80, Tryz.ntmps80
  go_wp2
  go_ret
  exact RetOwn.mk (Own.nil _ _ _ _) (Below.refl _ _)
 | some ad =>
  have H := Lib.hid hb
  clear h hb h1 h2 h3 h4
  have ho : Own tP 131 (w.alloc (.cells #[] 131)) (fun k => True) (.slice (some ⟨w.heap.size, 0, none⟩) 0 0) [] := ⟨fun _ _ => trivial, [], ⟨rfl, .inr ⟨w.heap.size, 0, #[], rfl, Nat.zero_le _, heap_alloc_new w _, Nat.le_refl _, by unfold maxLen; omega, rfl, rfl⟩⟩, fun j x hj => by simp at hj⟩
  have HO := Lib.hid ho
  have hr := H.out.below (Below.heap1 w (.cells #[] 131))
  have HRR := Lib.hid hr
  clear ho hr
  have hq := fun W : World => run_eql_slice_nil (P := Tryz.prog) W 48 _ (some ad) l.length c Tryz.underlying48
  go_enter Tryz.func80, Tryz.ntmps80
  go_wp2_with (at_builtin; refine wpList_own_append (ty := tP) (W := w.alloc (.cells #[] 131)) (S := fun k => True) (Sy := fun k => S k ∧ k < w.heap.size) (v := .slice (some ⟨w.heap.size, 0, none⟩) 0 0) (xs := []) (ys := l) rfl _ _ 48 131 16 _ rfl elemEnds rfl HO.out (some ad) l.length c rfl HRR.out rfl ?b1 ?b2 trivial (fun k h _ => ⟨trivial, fun e => Nat.ne_of_lt h.2 (Option.some.inj e).symm⟩) ?_)
  case b1 => simp; omega
  case b2 => unfold maxLen; simp; omega
  intro v2 w2 ho2 hg2 hor2
  have hb2 : Below w.heap.size w w2 := below_of_grown (Below.heap1 w (.cells #[] 131)) hg2 (fun k hk => Nat.le_of_eq (Option.some.inj hk))
  have hlt2 := ho2.lt
  have ho3 : Own tP 131 w2 (fun k => w.heap.size ≤ k) v2 l := by
   obtain ⟨_, inner, r1, r2⟩ := ho2
   refine ⟨fun k hk => ?_, inner, r1, fun j x hj => r2 j x hj⟩
   rcases hor2 with h | h
   ·
    exact Nat.le_of_eq (Option.some.inj (h.symm.trans hk))
   ·
    have e := Option.some.inj (h.symm.trans hk); omega
  have HO3 := Lib.hid ho3
  have HB2 := Lib.hid hb2
  clear ho2 hg2 hb2 hor2
  go_wp2
  go_ret
  exact RetOwn.mk HO3.out HB2.out
end Go.Proofs.YtpehmmdbjakkpaaGreat
namespace Go.Proofs.YtpehmmdbjakkpaaGreat
open Go.RowKit
set_option linter.unusedSimpArgs false
set_option linter.unusedVariables false
theorem bcell {W w1 : World} (hb : Below W.heap.size W w1) : (∀ b o, b < W.heap.size → w1.cell? ⟨b, o, none⟩ = W.cell? ⟨b, o, none⟩) ∧ (∀ b o, b < W.heap.size → w1.frozen? ⟨b, o, none⟩ = W.frozen? ⟨b, o, none⟩) :=
 ⟨fun b o h => hb.cell (p := ⟨b, o, none⟩) h, fun b o h => hb.frozen (p := ⟨b, o, none⟩) h⟩
theorem drop_take_set {α : Type} {l : List α} {s j m : Nat} {u : α} : ((l.set j u).drop m).take s = if m ≤ j ∧ j < m + s then ((l.drop m).take s).set (j - m) u else (l.drop m).take s := by
 apply List.ext_getElem?
 intro i
 split
 ·
  rename_i h
  rw [List.getElem?_take, List.getElem?_drop, List.getElem?_set, List.getElem?_set, List.getElem?_take, List.getElem?_drop]
  simp only [List.length_take, List.length_drop]
  repeat' split
  all_goals first | rfl | (exfalso; omega)
 ·
  rename_i h
  rw [List.getElem?_take, List.getElem?_drop, List.getElem?_take, List.getElem?_drop]
  by_cases hi : i < s
  ·
   rw [if_pos hi, if_pos hi, List.getElem?_set, if_neg (by omega)]
  ·
   rw [if_neg hi, if_neg hi]
theorem Own.head {α : Type} {t : Ty α} {e : TypeId} {w : World} {S : Nat → Prop} {A : Option Addr} {n c : Nat} {xs : List α} (h : Own t e w S (.slice A n c) xs) (hn : 0 < xs.length) : ∃ g, A = some ⟨g, 0, none⟩ ∧ S g ∧ g < w.heap.size := by
 have hlt := h.lt
 obtain ⟨hS, inner, ho, hk⟩ := h
 rcases ho.2 with ⟨h1, h2⟩ | ⟨g, cap, cur, h1, _⟩
 ·
  omega
 ·
  injection h1 with h1 _ _
  subst h1
  exact ⟨g, rfl, hS g rfl, hlt g rfl⟩
theorem Own.frozenC {α : Type} {t : Ty α} {e : TypeId} {w : World} {S : Nat → Prop} {g n c : Nat} {xs : List α} (h : Own t e w S (.slice (some ⟨g, 0, none⟩) n c) xs) (j : Nat) : w.frozen? ⟨g, j, none⟩ = false := by
 obtain ⟨hS, inner, ho, hk⟩ := h
 have hn : n = xs.length := by
  rcases ho.2 with ⟨h1, _⟩ | ⟨_, _, _, h1, _⟩
  ·
   simp at h1
  ·
   injection h1
 subst hn
 exact ho.frozenAt j

theorem Own.n_eq {α : Type} {t : Ty α} {e : TypeId} {w : World} {S : Nat → Prop} {A : Option Addr} {n c : Nat} {xs : List α} (h : Own t e w S (.slice A n c) xs) : n = xs.length := h.row.n_eq.1
/-- One cell of one element of a flat kind. -/
theorem Own.setFlat {α : Type} {sz : Nat} {pos : 0 < sz} {enc : α → List Value} {hl : ∀ x, (enc x).length = sz} {h1 : ∀ x, ∀ u ∈ enc x, u.oneCell' = true} {w : World} {e : TypeId} {S : Nat → Prop} {g n c : Nat} {xs : List α}
  (h : Own (Ty.flat sz pos enc hl h1) e w S (.slice (some ⟨g, 0, none⟩) n c) xs) {p i : Nat} {y y' : α} {u : Value} (hy : xs[p]? = some y) (hi : i < sz) (hu : enc y' = (enc y).set i u) :
  Own (Ty.flat sz pos enc hl h1) e (w.setCell ⟨g, p * sz + i, none⟩ u) S (.slice (some ⟨g, 0, none⟩) n c) (xs.set p y') := by
 have hn := h.n_eq
 obtain ⟨hS, inner, ho, hk⟩ := h
 subst hn
 have hp : p < xs.length := (List.getElem?_eq_some_iff.1 hy).1
 refine ⟨hS, _, by rw [List.length_set]; exact (ho.stored (p * sz + i) u).1, fun j x hj => ?_⟩
 show ((inner.set (p * sz + i) u).drop (j * sz)).take sz = enc x
 have hk' : ∀ (j : Nat) (x : α), xs[j]? = some x → (inner.drop (j * sz)).take sz = enc x := fun j x hj => hk j x hj
 rw [List.getElem?_set] at hj
 rw [drop_take_set]
 by_cases hjp : p = j
 ·
  subst hjp
  rw [if_pos rfl, if_pos hp] at hj
  injection hj with hj
  subst hj
  rw [if_pos (by omega), hk' p y hy, hu]
  congr 1
  omega
 ·
  rw [if_neg hjp] at hj
  rw [if_neg, hk' j x hj]
  rintro ⟨a1, a2⟩
  rcases Nat.lt_or_ge p j with hpj | hpj
  ·
   have : (p + 1) * sz ≤ j * sz := Nat.mul_le_mul_right sz hpj
   rw [Nat.add_mul, Nat.one_mul] at this
   omega
  ·
   have : (j + 1) * sz ≤ p * sz := Nat.mul_le_mul_right sz (by omega)
   rw [Nat.add_mul, Nat.one_mul] at this
   omega
/-- A flat slice hangs on its own block alone. -/
theorem Own.keepFlat {α : Type} {sz : Nat} {pos : 0 < sz} {enc : α → List Value} {hl : ∀ x, (enc x).length = sz} {h1 : ∀ x, ∀ u ∈ enc x, u.oneCell' = true} {w w' : World} {e : TypeId} {S : Nat → Prop} {v : Value} {xs : List α}
  (h : Own (Ty.flat sz pos enc hl h1) e w S v xs) (hs : ∀ k, v.ownBlock = some k → w'.heap[k]? = w.heap[k]?) : Own (Ty.flat sz pos enc hl h1) e w' S v xs := Own.moveF (fun h => h) h hs
theorem Own.clsFlat {α : Type} {sz : Nat} {pos : 0 < sz} {enc : α → List Value} {hl : ∀ x, (enc x).length = sz} {h1 : ∀ x, ∀ u ∈ enc x, u.oneCell' = true} {w : World} {e : TypeId} {S S' : Nat → Prop} {v : Value} {xs : List α}
  (h : Own (Ty.flat sz pos enc hl h1) e w S v xs) (hs : ∀ k, v.ownBlock = some k → S' k) : Own (Ty.flat sz pos enc hl h1) e w S' v xs := by
 obtain ⟨hS, inner, ho, hk⟩ := h
 exact ⟨hs, inner, ho, fun j x hj => hk j x hj⟩
/-- A graph of the call's own: each slice in a block of its own, from B on. -/
structure OwnG (w : World) (B : Nat) (g : GraphD) (vn ve : Value) (nvs : List NV) : Prop where
 nodes : Own tNV 72 w (fun k => B ≤ k) vn nvs
 edges : Own tEdge 75 w (fun k => B ≤ k) ve g.edges
 len : nvs.length = g.nodes.length
 each : ∀ (j : Nat) (v : NV) (x : NodeD), nvs[j]? = some v → g.nodes[j]? = some x → v.id = x.id ∧ Own tP 92 w (fun k => B ≤ k) (.slice v.A v.n v.c) x.ps
 ne : ∀ k, vn.ownBlock = some k → ve.ownBlock ≠ some k
 np : ∀ (j : Nat) (v : NV) (k : Nat), nvs[j]? = some v → (Value.slice v.A v.n v.c).ownBlock = some k → vn.ownBlock ≠ some k ∧ ve.ownBlock ≠ some k
 pp : ∀ (i j : Nat) (u v : NV) (k : Nat), i < j → nvs[i]? = some u → nvs[j]? = some v → (Value.slice u.A u.n u.c).ownBlock = some k → (Value.slice v.A v.n v.c).ownBlock ≠ some k
theorem OwnG.gr {w : World} {B : Nat} {g : GraphD} {vn ve : Value} {nvs : List NV} (h : OwnG w B g vn ve nvs) : Gr w (fun k => B ≤ k) g vn ve :=
 ⟨⟨nvs, h.nodes.row, h.len, fun j v x h1 h2 => ⟨(h.each j v x h1 h2).1, (h.each j v x h1 h2).2.row⟩⟩, h.edges.row⟩
theorem OwnG.below {w w' : World} {B : Nat} {g : GraphD} {vn ve : Value} {nvs : List NV} (h : OwnG w B g vn ve nvs) (hb : Below w.heap.size w w') : OwnG w' B g vn ve nvs :=
 ⟨h.nodes.below hb, h.edges.below hb, h.len, fun j v x h1 h2 => ⟨(h.each j v x h1 h2).1, (h.each j v x h1 h2).2.below hb⟩, h.ne, h.np, h.pp⟩
/-- Blocks that the graph does not lie in may be written. -/
theorem OwnG.move {w w' : World} {B : Nat} {g : GraphD} {vn ve : Value} {nvs : List NV} (h : OwnG w B g vn ve nvs) (hs : Same (fun k => B ≤ k) w w') : OwnG w' B g vn ve nvs :=
 ⟨h.nodes.move hs, h.edges.move hs, h.len, fun j v x h1 h2 => ⟨(h.each j v x h1 h2).1, (h.each j v x h1 h2).2.move hs⟩, h.ne, h.np, h.pp⟩
end Go.Proofs.YtpehmmdbjakkpaaGreat
namespace Go.Proofs.YtpehmmdbjakkpaaGreat
open Go.RowKit
set_option linter.unusedSimpArgs false
set_option linter.unusedVariables false
/-- Half way: the nodes before j have their own properties already. -/
structure Mid (w : World) (C j : Nat) (nvs0 nvs : List NV) (xs : List NodeD) : Prop where
 len : nvs.length = nvs0.length
 old : ∀ (i : Nat) (v : NV), nvs[i]? = some v → j ≤ i → nvs0[i]? = some v
 new : ∀ (i : Nat) (v : NV) (x : NodeD), i < j → nvs[i]? = some v → xs[i]? = some x → v.id = x.id ∧ Own tP 92 w (fun k => C ≤ k) (.slice v.A v.n v.c) x.ps
 pp : ∀ (i i' : Nat) (u v : NV) (k : Nat), i < i' → i' < j → nvs[i]? = some u → nvs[i']? = some v → (Value.slice u.A u.n u.c).ownBlock = some k → (Value.slice v.A v.n v.c).ownBlock ≠ some k
theorem Mid.next {w w' : World} {C j : Nat} {nvs0 nvs : List NV} {xs : List NodeD} (h : Mid w C j nvs0 nvs xs) (hl : nvs0.length = xs.length) {v v' : NV} {x : NodeD} (hv : nvs[j]? = some v) (hx : xs[j]? = some x) (hid : v'.id = x.id) (hC : C ≤ w.heap.size)
  (ho : Own tP 92 w' (fun k => w.heap.size ≤ k) (.slice v'.A v'.n v'.c) x.ps) (hs : Same (fun k => C ≤ k) w w') : Mid w' C (j + 1) nvs0 (nvs.set j v') xs := by
 have hj : j < nvs.length := (List.getElem?_eq_some_iff.1 hv).1
 have G : ∀ (i : Nat) (u : NV), (nvs.set j v')[i]? = some u → (i = j ∧ u = v') ∨ (i ≠ j ∧ nvs[i]? = some u) := by
  intro i u hu
  rw [List.getElem?_set] at hu
  split at hu
  ·
   rename_i e
   injection hu with hu
   exact .inl ⟨e.symm, hu.symm⟩
  ·
   exact .inr ⟨by omega, hu⟩
 have LT : ∀ (i : Nat) (u : NV) (k : Nat), i < j → nvs[i]? = some u → (Value.slice u.A u.n u.c).ownBlock = some k → k < w.heap.size := by
  intro i u k hi hu hk
  have hix : i < xs.length := by have := (List.getElem?_eq_some_iff.1 hu).1; have := h.len; omega
  obtain ⟨_, ho2⟩ := h.new i u xs[i] hi hu (List.getElem?_eq_getElem hix)
  exact ho2.lt k hk
 refine ⟨by rw [List.length_set]; exact h.len, ?_, ?_, ?_⟩
 ·
  intro i u hu hi
  rcases G i u hu with ⟨e, _⟩ | ⟨_, hu⟩
  ·
   omega
  ·
   exact h.old i u hu (by omega)
 ·
  intro i u y hi hu hy
  rcases G i u hu with ⟨rfl, rfl⟩ | ⟨hne, hu⟩
  ·
   rw [hx] at hy
   injection hy with hy
   subst hy
   exact ⟨hid, ho.mono fun k hk _ => Nat.le_trans hC hk⟩
  ·
   obtain ⟨a1, a2⟩ := h.new i u y (by omega) hu hy
   exact ⟨a1, a2.move hs⟩
 ·
  intro i i' u z k hii hi' hu hz hk
  rcases G i u hu with ⟨rfl, rfl⟩ | ⟨hne, hu2⟩
  ·
   omega
  ·
   rcases G i' z hz with ⟨rfl, rfl⟩ | ⟨hne', hz⟩
   ·
    intro e
    have h1 := LT i u k hii hu2 hk
    have h2 : w.heap.size ≤ k := ho.1 k e
    omega
   ·
    exact h.pp i i' u z k hii (by omega) hu2 hz hk
set_option maxRecDepth 100000 in
set_option maxHeartbeats 8000000 in
theorem own_calls (w : World) (S : Nat → Prop) (g : GraphD) (vn ve : Value) (h : Gr w S g vn ve) (hs : g.small) : Calls Tryz.prog 110 #[.agg #[vn, ve, .int .i64 g.nn, .int .i64 g.ne]] w fun e w' => ∃ vn' ve' nvs, e = .returned (.agg #[vn', ve', .int .i64 g.nn, .int .i64 g.ne]) ∧ OwnG w' w.heap.size g vn' ve' nvs ∧ Below w.heap.size w w' := by
 obtain ⟨⟨nvs0, h1, h2⟩, h3⟩ := h
 have hsl := h1.slice
 rw [h2.len] at hsl
 obtain ⟨A1, c1, rfl⟩ := hsl
 obtain ⟨A2, c2, rfl⟩ := h3.slice
 have H1 := Lib.hid h1
 have H2 := Lib.hid h2
 have H3 := Lib.hid h3
 have HS := Lib.hid hs
 have HLEN := Lib.hid h2.len
 have hl0 := hs.1
 clear h1 h2 h3 hs
 go_enter Tryz.func110, Tryz.ntmps110
 go_wp2
 have hw0 : Below w.heap.size w ((w.alloc (.cells #[.slice A1 g.nodes.length c1, .slice A2 g.edges.length c2, .int .i64 g.nn, .int .i64 g.ne] 31)).alloc (.cells #[.slice none 0 0, .slice none 0 0, .int .i64 0, .int .i64 0] 31)) := ((Below.refl w.heap.size w).alloc (Nat.le_refl _) _).alloc (by simp) _
 have K0 := Lib.hid hw0.drew
 have HN0 := Lib.hid (H1.out.below hw0.drew)
 clear hw0
 refine wp_region_sched2 [(0, true), (1, true), (3, true), (4, true), (2, false), (6, true), (5, false)] 7 [(8, true), (9, false)] (Kept ((w.alloc (.cells #[.slice A1 g.nodes.length c1, .slice A2 g.edges.length c2, .int .i64 g.nn, .int .i64 g.ne] 31)).alloc (.cells #[.slice none 0 0, .slice none 0 0, .int .i64 0, .int .i64 0] 31)) (fun _ => True)) (fun _ => True) (by kernel_rfl) (by kernel_rfl) (by kernel_rfl) ?_
 have HK := Lib.hid (Kept.refl ((w.alloc (.cells #[.slice A1 g.nodes.length c1, .slice A2 g.edges.length c2, .int .i64 g.nn, .int .i64 g.ne] 31)).alloc (.cells #[.slice none 0 0, .slice none 0 0, .int .i64 0, .int .i64 0] 31)) (fun _ => True)).drew
 have hr0 : w.heap.size < w.heap.size + 1 + 1 := by omega
 repeat (refine sched2_take (v := ?_) (by simp only [opT, opS, opZ]; rfl) (Or.inl ⟨by rfl, fun W hW => ?_⟩) HK.out ?_; rotate_left; (have hc := fun b o hb => hW.cell b o trivial hb; clear hW; go_simp; with_reducible rfl); simp only [Act.put, putT, putZ, putS])
 refine sched2_step (by simp only [opT, opS, opZ]; rfl) ?_
 go_wp2_with fail
 refine (cloneNodes_calls _ S _ _ HN0.out (by rw [HLEN.out]; exact hl0)).mono ?_
 rintro e w1 ⟨v1, rfl, ho1, hb1⟩
 have hsl := ho1.slice
 rw [HLEN.out] at hsl
 obtain ⟨B1, d1, rfl⟩ := hsl
 have hs1 := hb1.size
 have K1 := Lib.hid (K0.out.trans (hb1.mono (by simp; omega)))
 have HK1 := Lib.hid (HK.out.below hb1)
 have P1 := Lib.hid ho1
 obtain ⟨hc1, hf1⟩ := bcell hb1
 clear ho1 hb1
 simp only [World.size_alloc, World.size_drew] at hs1 hc1 hf1
 have HE1 := Lib.hid (H3.out.below K1.out)
 go_wp2_with fail
 refine sched2_on HK1.out ?_
 repeat (refine sched2_take (v := ?_) (by simp only [opT, opS, opZ]; rfl) (Or.inl ⟨by rfl, fun W hW => ?_⟩) HK1.out ?_; rotate_left; (have hc := fun b o hb => hW.cell b o trivial hb; clear hW; go_simp; with_reducible rfl); simp only [Act.put, putT, putZ, putS])
 refine sched2_step (by simp only [opT, opS, opZ]; rfl) ?_
 go_wp2_with fail
 refine (cloneEdges_calls _ S _ _ HE1.out HS.out.2.1).mono ?_
 rintro e w2 ⟨v2, rfl, ho2, hb2⟩
 obtain ⟨B2, d2, rfl⟩ := ho2.slice
 have hs2 := hb2.size
 have K2 := Lib.hid (K1.out.trans (hb2.mono (by omega)))
 have HK2 := Lib.hid (HK1.out.below hb2)
 have PL1 := Lib.hid P1.out.lt
 have P1 := Lib.hid (P1.out.below hb2)
 have P2 := Lib.hid ho2
 have PE1 := Lib.hid ho2.1
 obtain ⟨hc2, hf2⟩ := bcell hb2
 clear ho2 hb2
 have g1 : w.heap.size < w1.heap.size := by omega
 have g1' : w.heap.size + 1 < w1.heap.size := by omega
 go_wp2_with fail
 refine sched2_on HK2.out ?_
 repeat (refine sched2_take (v := ?_) (by simp only [opT, opS, opZ]; rfl) (Or.inl ⟨by rfl, fun W hW => ?_⟩) HK2.out ?_; rotate_left; (have hc := fun b o hb => hW.cell b o trivial hb; clear hW; go_simp; with_reducible rfl); simp only [Act.put, putT, putZ, putS])
 refine sched2_go (by simp only [opT, opS, opZ]; rfl) ?_
 go_wp2_with fail
 refine sched_on trivial ?_
 repeat (refine sched_take (v := ?_) (by simp only [opT, opS, opZ]; rfl) (Or.inl ⟨by rfl, fun W hW => ?_⟩) trivial ?_; rotate_left; (skip; clear hW; go_simp; with_reducible rfl); simp only [Act.put, putT, putZ, putS])
 refine sched_step (by simp only [opT, opS, opZ]; rfl) ?_
 go_wp2_with fail
 refine sched_on trivial ?_
 refine sched_done ?_
 have g2 : w.heap.size < w2.heap.size := by omega
 have g2' : w.heap.size + 1 < w2.heap.size := by omega
 obtain ⟨W1, hW1⟩ : ∃ W1, W1 = (w2.setCell ⟨w.heap.size, 0, none⟩ (.slice B1 g.nodes.length d1)).setCell ⟨w.heap.size, 1, none⟩ (.slice B2 g.edges.length d2) := ⟨_, rfl⟩
 rw [← hW1]
 have e0 : w2.cell? ⟨w.heap.size, 0, none⟩ = some (.slice A1 g.nodes.length c1) := by rw [hc2 _ _ g1, hc1 _ _ hr0]; simp [go_sem]
 have e1 : w2.cell? ⟨w.heap.size, 1, none⟩ = some (.slice A2 g.edges.length c2) := by rw [hc2 _ _ g1, hc1 _ _ hr0]; simp [go_sem]
 have e2 : w2.cell? ⟨w.heap.size, 2, none⟩ = some (.int .i64 g.nn) := by rw [hc2 _ _ g1, hc1 _ _ hr0]; simp [go_sem]
 have e3 : w2.cell? ⟨w.heap.size, 3, none⟩ = some (.int .i64 g.ne) := by rw [hc2 _ _ g1, hc1 _ _ hr0]; simp [go_sem]
 have y0 : w2.cell? ⟨w.heap.size + 1, 0, none⟩ = some (.slice none 0 0) := by rw [hc2 _ _ g1', hc1 _ _ (by omega)]; simp [go_sem]
 have y1 : w2.cell? ⟨w.heap.size + 1, 1, none⟩ = some (.slice none 0 0) := by rw [hc2 _ _ g1', hc1 _ _ (by omega)]; simp [go_sem]
 have y2 : w2.cell? ⟨w.heap.size + 1, 2, none⟩ = some (.int .i64 0) := by rw [hc2 _ _ g1', hc1 _ _ (by omega)]; simp [go_sem]
 have y3 : w2.cell? ⟨w.heap.size + 1, 3, none⟩ = some (.int .i64 0) := by rw [hc2 _ _ g1', hc1 _ _ (by omega)]; simp [go_sem]
 have fy : ∀ o, w2.frozen? ⟨w.heap.size + 1, o, none⟩ = false := by intro o; rw [hf2 _ _ g1', hf1 _ _ (by omega)]; simp [go_sem]
 have b0 : W1.cell? ⟨w.heap.size, 0, none⟩ = some (.slice B1 g.nodes.length d1) := by rw [hW1, World.cell?_setCell_other _ _ _ _ (by simp), World.cell?_setCell_same _ _ _ e0]
 have b1 : W1.cell? ⟨w.heap.size, 1, none⟩ = some (.slice B2 g.edges.length d2) := by rw [hW1]; exact World.cell?_setCell_same _ _ _ (u := .slice A2 g.edges.length c2) (by rw [World.cell?_setCell_other _ _ _ _ (by simp), e1])
 have b2 : W1.cell? ⟨w.heap.size, 2, none⟩ = some (.int .i64 g.nn) := by rw [hW1, World.cell?_setCell_other _ _ _ _ (by simp), World.cell?_setCell_other _ _ _ _ (by simp), e2]
 have b3 : W1.cell? ⟨w.heap.size, 3, none⟩ = some (.int .i64 g.ne) := by rw [hW1, World.cell?_setCell_other _ _ _ _ (by simp), World.cell?_setCell_other _ _ _ _ (by simp), e3]
 have z0 : W1.cell? ⟨w.heap.size + 1, 0, none⟩ = some (.slice none 0 0) := by rw [hW1, World.cell?_setCell_other _ _ _ _ (by simp), World.cell?_setCell_other _ _ _ _ (by simp), y0]
 have z1 : W1.cell? ⟨w.heap.size + 1, 1, none⟩ = some (.slice none 0 0) := by rw [hW1, World.cell?_setCell_other _ _ _ _ (by simp), World.cell?_setCell_other _ _ _ _ (by simp), y1]
 have z2 : W1.cell? ⟨w.heap.size + 1, 2, none⟩ = some (.int .i64 0) := by rw [hW1, World.cell?_setCell_other _ _ _ _ (by simp), World.cell?_setCell_other _ _ _ _ (by simp), y2]
 have z3 : W1.cell? ⟨w.heap.size + 1, 3, none⟩ = some (.int .i64 0) := by rw [hW1, World.cell?_setCell_other _ _ _ _ (by simp), World.cell?_setCell_other _ _ _ _ (by simp), y3]
 have fz : ∀ o, W1.frozen? ⟨w.heap.size + 1, o, none⟩ = false := by intro o; rw [hW1, World.frozen?_setCell, World.frozen?_setCell, fy]
 have KW := Lib.hid (show Below w.heap.size w W1 by rw [hW1]; exact (K2.out.setCell (Nat.le_refl _) _).setCell (Nat.le_refl _) _)
 have sW : W1.heap.size = w2.heap.size := by rw [hW1]; simp
 have hsame : Same (fun k => w.heap.size + 1 + 1 ≤ k) w2 W1 := by
  rw [hW1]
  exact (Same.of_setCell _ _ _ (fun k hk => by simp only; omega)).trans (by simp) (Same.of_setCell _ _ _ (fun k hk => by simp only; omega))
 have P1 := Lib.hid ((P1.out.mono fun k hk _ => (by simpa using hk : w.heap.size + 1 + 1 ≤ k)).move hsame)
 have P2 := Lib.hid ((P2.out.mono fun k hk _ => (by omega : w.heap.size + 1 + 1 ≤ k)).move hsame)
 have NE := Lib.hid (show ∀ k, (Value.slice B1 g.nodes.length d1).ownBlock = some k → (Value.slice B2 g.edges.length d2).ownBlock ≠ some k from fun k hk e => by
  have h1 := PL1.out k hk
  have h2 := PE1.out k e
  omega)
 clear e0 e1 e2 e3 y0 y1 y2 y3 fy hsame hc1 hc2 hf1 hf2 hW1 HK HK1 HK2 K2 K1 K0 HN0 HE1 hr0
 have PG := Lib.hid (show ∀ k, (Value.slice B1 g.nodes.length d1).ownBlock = some k → w.heap.size + 1 + 1 ≤ k ∧ k < W1.heap.size from fun k hk => ⟨P1.out.1 k hk, P1.out.lt k hk⟩)
 have PE := Lib.hid (show ∀ k, (Value.slice B2 g.edges.length d2).ownBlock = some k → w.heap.size + 1 + 1 ≤ k ∧ k < W1.heap.size from fun k hk => ⟨P2.out.1 k hk, P2.out.lt k hk⟩)
 go_wp2
 go_loopw [16] (fun p wr => ∃ (j : Nat) (nvs : List NV), j ≤ g.nodes.length ∧ p = .int .i64 (j : Int) ∧ Hid (Own tNV 72 wr (fun k => w.heap.size + 1 + 1 ≤ k) (.slice B1 g.nodes.length d1) nvs) ∧ Hid (Mid wr W1.heap.size j nvs0 nvs g.nodes) ∧ Hid (Same (fun k => (Value.slice B1 g.nodes.length d1).ownBlock ≠ some k) W1 wr) ∧ Hid (Below w.heap.size w wr) ∧ W1.heap.size ≤ wr.heap.size) (fun p _ => g.nodes.length - (intOf p).toNat)
 case atStart => exact ⟨0, nvs0, Nat.zero_le _, rfl, P1, ⟨rfl, fun i v h _ => h, fun i v x h => by omega, fun i i' u v k h h' => by omega⟩, (fun _ _ _ => rfl), KW, Nat.le_refl _⟩
 case round =>
  obtain ⟨wa, rfl⟩ : ∃ wa, wa = wr := ⟨wr, rfl⟩
  obtain ⟨j, nvs, hj, rfl, ho, hmid, hsm, hb, hsz⟩ := hrel
  have hwr := hb.out.size
  have hbx : ∀ o, wa.cell? ⟨w.heap.size, o, none⟩ = W1.cell? ⟨w.heap.size, o, none⟩ := fun o => World.cell?_of_block (w := W1) (hsm.out w.heap.size (fun e => by have := PG.out _ e; omega) (by omega))
  by_cases hlt : j < g.nodes.length
  case neg =>
   obtain rfl : j = g.nodes.length := by omega
   have hbz : ∀ o, wa.cell? ⟨w.heap.size + 1, o, none⟩ = W1.cell? ⟨w.heap.size + 1, o, none⟩ := fun o => World.cell?_of_block (w := W1) (hsm.out (w.heap.size + 1) (fun e => by have := PG.out _ e; omega) (by omega))
   have hfz : ∀ o, wa.frozen? ⟨w.heap.size + 1, o, none⟩ = W1.frozen? ⟨w.heap.size + 1, o, none⟩ := fun o => World.frozen?_of_block (w := W1) (hsm.out (w.heap.size + 1) (fun e => by have := PG.out _ e; omega) (by omega))
   go_wp2
   have hS : Same (fun k => w.heap.size + 1 + 1 ≤ k) wa ((((wa.setCell ⟨w.heap.size + 1, 0, none⟩ (.slice B1 g.nodes.length d1)).setCell ⟨w.heap.size + 1, 1, none⟩ (.slice B2 g.edges.length d2)).setCell ⟨w.heap.size + 1, 2, none⟩ (.int .i64 g.nn)).setCell ⟨w.heap.size + 1, 3, none⟩ (.int .i64 g.ne)) := by
    intro k hk hl
    have hne : k ≠ w.heap.size + 1 := by omega
    rw [Below.heap_setCell _ ⟨w.heap.size + 1, 3, none⟩ _ k hne, Below.heap_setCell _ ⟨w.heap.size + 1, 2, none⟩ _ k hne, Below.heap_setCell _ ⟨w.heap.size + 1, 1, none⟩ _ k hne, Below.heap_setCell _ ⟨w.heap.size + 1, 0, none⟩ _ k hne]
   have hlx : ∀ (i : Nat) (u : NV), nvs[i]? = some u → i < g.nodes.length := fun i u hu => by have h1 := (List.getElem?_eq_some_iff.1 hu).1; have h2 := hmid.out.len; have h3 := HLEN.out; omega
   have hpo : ∀ (i : Nat) (u : NV) (k : Nat), nvs[i]? = some u → (Value.slice u.A u.n u.c).ownBlock = some k → W1.heap.size ≤ k := fun i u k hu hk => by
    obtain ⟨y, hy⟩ := getElem?_of_lt (hlx i u hu)
    exact (hmid.out.new i u y (hlx i u hu) hu hy).2.1 k hk
   refine bodyPost_ret (v := .agg #[.slice B1 g.nodes.length d1, .slice B2 g.edges.length d2, .int .i64 g.nn, .int .i64 g.ne]) (by simp [results, Tryz.results110, go_sem, hbz, z0, z1, z2, z3]; try rfl) rfl ⟨_, _, nvs, rfl, ⟨?_, ?_, ?_, ?_, ?_, ?_, ?_⟩, ?_⟩
   ·
    exact (ho.out.move hS).mono fun k hk _ => by omega
   ·
    have h1 : Own tEdge 75 wa (fun k => w.heap.size + 1 + 1 ≤ k) (.slice B2 g.edges.length d2) g.edges := P2.out.keepFlat (fun k hk => hsm.out k (fun e => NE.out k e hk) (PE.out k hk).2)
    exact (h1.move hS).mono fun k hk _ => by omega
   ·
    rw [hmid.out.len, HLEN.out]
   ·
    intro i v x hv hx
    obtain ⟨a1, a2⟩ := hmid.out.new i v x (hlx i v hv) hv hx
    exact ⟨a1, ((a2.mono fun k hk _ => (by omega : w.heap.size + 1 + 1 ≤ k)).move hS).mono fun k hk _ => by omega⟩
   ·
    exact NE.out
   ·
    intro i v k hv hk
    have h1 := hpo i v k hv hk
    exact ⟨fun e => by have := PG.out k e; omega, fun e => by have := PE.out k e; omega⟩
   ·
    intro i i' u v k hii hu hv hk
    exact hmid.out.pp i i' u v k hii (hlx i' v hv) hu hv hk
   ·
    exact (((hb.out.setCell (by simp only; omega) _).setCell (by simp only; omega) _).setCell (by simp only; omega) _).setCell (by simp only; omega) _
  obtain ⟨x, hx⟩ := getElem?_of_lt hlt
  have hjn : j < nvs.length := by rw [hmid.out.len, HLEN.out]; exact hlt
  obtain ⟨v, hv⟩ := getElem?_of_lt hjn
  have hv0 := hmid.out.old j v hv (Nat.le_refl _)
  obtain ⟨hid, hrp⟩ := H2.out.each j v x hv0 hx
  have hfew := HS.out.2.2 x (List.mem_of_getElem? hx)
  obtain ⟨gN, rfl, hgB, hgl⟩ := ho.out.head (by omega)
  obtain ⟨b', off', hA, _, _, x0, x1⟩ := ho.out.row.atNV hv
  injection hA with hA
  injection hA with h1 h2
  subst h1 h2
  rw [hid] at x0
  simp only [Nat.zero_add] at x0 x1
  obtain ⟨va, vc, hvs⟩ : ∃ a c, Value.slice v.A v.n v.c = .slice a x.ps.length c := hrp.slice
  have hvn : v.n = x.ps.length := by injection hvs
  rw [hvn] at x1 hrp
  clear hvs
  have HX := Lib.hid hx
  have HV := Lib.hid hv
  have HID := Lib.hid hid
  have HRP := Lib.hid ((hrp.below hb.out).below ((Below.refl wa.heap.size wa).alloc (Nat.le_refl _) (.cells #[.int .i64 x.id, .slice v.A x.ps.length v.c] 72)).drew)
  have HF0 := Lib.hid (ho.out.frozenC (j * 2 + 1))
  clear hx hv hv0 hid hrp
  have g3 : w.heap.size < wa.heap.size := by omega
  have g4 : w.heap.size < wa.heap.size + 1 := by omega
  have g5 : gN < wa.heap.size + 1 := by omega
  have g6 : wa.heap.size < wa.heap.size + 1 := by omega
  go_wp2_with fail
  have hne1 : ¬ w.heap.size = gN := by omega
  have hne2 : ¬ wa.heap.size = gN := by omega
  have f0 := HF0.out
  refine wp_region_sched [(0, true), (1, true), (2, true), (3, true), (4, true), (5, false), (6, true), (7, true), (8, false)] (Kept (wa.alloc (.cells #[.int .i64 x.id, .slice v.A x.ps.length v.c] 72)) (fun k => ¬ k = gN)) (by kernel_rfl) (by kernel_rfl) ?_
  have HK := Lib.hid (Kept.refl (wa.alloc (.cells #[.int .i64 x.id, .slice v.A x.ps.length v.c] 72)) (fun k => ¬ k = gN)).drew
  repeat (refine sched_take (v := ?_) (by simp only [opT, opS, opZ]; rfl) (Or.inl ⟨by rfl, fun W hW => ?_⟩) HK.out ?_; rotate_left; (have hc := fun b o hn hb => hW.cell b o hn hb; clear hW; go_simp; with_reducible rfl); simp only [Act.put, putT, putZ, putS])
  refine sched_step (by simp only [opT, opS, opZ]; rfl) ?_
  go_wp2_with fail
  refine (clonePairs_calls _ _ _ _ HRP.out hfew).mono ?_
  rintro e w3 ⟨v3, rfl, ho3, hb3⟩
  obtain ⟨B3, d3, rfl⟩ := ho3.slice
  have HO3 := Lib.hid ho3
  have HB3 := Lib.hid hb3
  have HK3 := Lib.hid (HK.out.below hb3)
  obtain ⟨hc3, hf3⟩ := bcell hb3
  have s3 := hb3.size
  clear ho3 hb3
  simp only [World.size_alloc, World.size_drew] at s3 hc3 hf3
  have g7 : gN < w3.heap.size := by omega
  go_wp2_with fail
  refine sched_on HK3.out ?_
  repeat (refine sched_take (v := ?_) (by simp only [opT, opS, opZ]; rfl) (Or.inl ⟨by rfl, fun W hW => ?_⟩) HK3.out ?_; rotate_left; (have hc := fun b o hn hb => hW.cell b o hn hb; clear hW; go_simp; with_reducible rfl); simp only [Act.put, putT, putZ, putS])
  refine sched_step (by simp only [opT, opS, opZ]; rfl) ?_
  go_wp2_with fail
  refine sched_on (HK3.out.setCell (.inr (by simp)) _) ?_
  refine sched_done ?_
  have K3 := Lib.hid ((((Below.refl wa.heap.size wa).alloc (Nat.le_refl _) (.cells #[.int .i64 x.id, .slice v.A x.ps.length v.c] 72)).drew).trans (HB3.out.mono (by simp)))
  have hsg : ∀ (S : Nat → Prop), (∀ k, S k → ¬ k = gN) → Same S wa (w3.setCell ⟨gN, j * 2 + 1, none⟩ (.slice B3 x.ps.length d3)) := fun S hS => (Same.of_below K3.out).trans K3.out.size (Same.of_setCell _ _ _ hS)
  have N1 := Lib.hid ((ho.out.below K3.out).setFlat (p := j) (i := 1) (y := v) (y' := ⟨v.id, B3, x.ps.length, d3⟩) (u := .slice B3 x.ps.length d3) HV.out (by decide) rfl)
  have N2 := Lib.hid (hmid.out.next HLEN.out (v' := ⟨v.id, B3, x.ps.length, d3⟩) HV.out HX.out HID.out hsz (((HO3.out.mono fun k hk _ => (by simp at hk; omega : wa.heap.size ≤ k)).keepFlat (w' := w3.setCell ⟨gN, j * 2 + 1, none⟩ (.slice B3 x.ps.length d3)) fun k hk => Below.heap_setCell _ _ _ k (by have := HO3.out.1 k hk; simp at this; simp only; omega))) (hsg _ fun k hk => by have := (PG.out gN rfl).2; omega))
  have N3 := Lib.hid (hsm.out.trans hsz (hsg (fun k => (Value.slice (some ⟨gN, 0, none⟩) g.nodes.length d1).ownBlock ≠ some k) fun k hk e => hk (by rw [e]; rfl)))
  have N4 := Lib.hid ((hb.out.trans (K3.out.mono hwr)).setCell (p := ⟨gN, j * 2 + 1, none⟩) (by simp only; omega) (.slice B3 x.ps.length d3))
  have N5 : W1.heap.size ≤ (w3.setCell ⟨gN, j * 2 + 1, none⟩ (.slice B3 x.ps.length d3)).heap.size := by rw [World.size_setCell]; omega
  clear hsg
  go_wp2
  go_roundw
  case rel => exact ⟨j + 1, nvs.set j ⟨v.id, B3, x.ps.length, d3⟩, by omega, by first | (go_num; done) | (go_num; omega), N1, N2, N3, N4, N5⟩
  case measure => simp [intOf]; omega
end Go.Proofs.YtpehmmdbjakkpaaGreat
namespace Go.Proofs.YtpehmmdbjakkpaaGreat
open Go.RowKit Go.Shelf
set_option linter.unusedSimpArgs false
set_option linter.unusedVariables false
set_option maxRecDepth 20000 in
theorem atC_calls (w : World) (x : NV) (n : Int) (cb : Nat) (hcb : cb < w.heap.size) (hc : w.cell? ⟨cb, 0, none⟩ = some (.int .i64 n)) : Calls Tryz.prog 122 #[.agg #[.int .i64 x.id, .slice x.A x.n x.c], .pointer (some ⟨cb, 0, none⟩)] w fun e w' => e = .returned (.bool (x.id == n)) ∧ Below w.heap.size w w' := by
 have g1 : cb < w.heap.size + 1 := by omega
 go_enter Tryz.func122, Tryz.ntmps122
 go_wp2
 go_ret
 exact ⟨rfl, (Below.refl _ _).alloc (Nat.le_refl _) _⟩
set_option maxRecDepth 20000 in
theorem fuseC_calls (w : World) (x : NV) (n : Int) (cb : Nat) (hcb : cb < w.heap.size) (hc : w.cell? ⟨cb, 0, none⟩ = some (.int .i64 n)) : Calls Tryz.prog 120 #[.agg #[.int .i64 x.id, .slice x.A x.n x.c], .pointer (some ⟨cb, 0, none⟩)] w fun e w' => e = .returned (.bool (x.id == n)) ∧ Below w.heap.size w w' := by
 have g1 : cb < w.heap.size + 1 := by omega
 go_enter Tryz.func120, Tryz.ntmps120
 go_wp2
 go_ret
 exact ⟨rfl, (Below.refl _ _).alloc (Nat.le_refl _) _⟩
set_option maxRecDepth 20000 in
theorem dropNC_calls (w : World) (x : NV) (n : Int) (cb : Nat) (hcb : cb < w.heap.size) (hc : w.cell? ⟨cb, 0, none⟩ = some (.int .i64 n)) : Calls Tryz.prog 118 #[.agg #[.int .i64 x.id, .slice x.A x.n x.c], .pointer (some ⟨cb, 0, none⟩)] w fun e w' => e = .returned (.bool (x.id == n)) ∧ Below w.heap.size w w' := by
 have g1 : cb < w.heap.size + 1 := by omega
 go_enter Tryz.func118, Tryz.ntmps118
 go_wp2
 go_ret
 exact ⟨rfl, (Below.refl _ _).alloc (Nat.le_refl _) _⟩
set_option maxRecDepth 20000 in
theorem cutC_calls (w : World) (x : EdgeD) (n : Int) (cb : Nat) (hcb : cb < w.heap.size) (hc : w.cell? ⟨cb, 0, none⟩ = some (.int .i64 n)) : Calls Tryz.prog 113 #[.agg #[.int .i64 x.id, .int .i64 x.frm, .int .i64 x.to], .pointer (some ⟨cb, 0, none⟩)] w fun e w' => e = .returned (.bool (x.id == n)) ∧ Below w.heap.size w w' := by
 have g1 : cb < w.heap.size + 1 := by omega
 go_enter Tryz.func113, Tryz.ntmps113
 go_wp2
 go_ret
 exact ⟨rfl, (Below.refl _ _).alloc (Nat.le_refl _) _⟩
set_option maxRecDepth 20000 in
theorem dropEC_calls (w : World) (x : EdgeD) (n : Int) (cb : Nat) (hcb : cb < w.heap.size) (hc : w.cell? ⟨cb, 0, none⟩ = some (.int .i64 n)) : Calls Tryz.prog 119 #[.agg #[.int .i64 x.id, .int .i64 x.frm, .int .i64 x.to], .pointer (some ⟨cb, 0, none⟩)] w fun e w' => e = .returned (.bool (x.frm == n || x.to == n)) ∧ Below w.heap.size w w' := by
 have g1 : cb < w.heap.size + 1 := by omega
 by_cases h1 : x.frm = n
 ·
  have e1 : (x.frm == n || x.to == n) = true := by simp [h1]
  have HE := Lib.hid e1
  clear e1
  replace h1 : (x.frm == n) = true := beq_iff_eq.mpr h1
  go_enter Tryz.func119, Tryz.ntmps119
  go_wp2
  go_ret
  exact ⟨by rw [HE.out]; rfl, (Below.refl _ _).alloc (Nat.le_refl _) _⟩
 ·
  have e1 : (x.frm == n || x.to == n) = (x.to == n) := by simp [h1]
  have HE := Lib.hid e1
  clear e1
  replace h1 : (x.frm == n) = false := beq_eq_false_iff_ne.mpr h1
  go_enter Tryz.func119, Tryz.ntmps119
  go_wp2
  go_ret
  exact ⟨by rw [HE.out]; rfl, (Below.refl _ _).alloc (Nat.le_refl _) _⟩
theorem atC_enters : Enters Tryz.prog 122 := enters_of Tryz.func122 (by kernel_rfl) rfl
theorem fuseC_enters : Enters Tryz.prog 120 := enters_of Tryz.func120 (by kernel_rfl) rfl
theorem dropNC_enters : Enters Tryz.prog 118 := enters_of Tryz.func118 (by kernel_rfl) rfl
theorem cutC_enters : Enters Tryz.prog 113 := enters_of Tryz.func113 (by kernel_rfl) rfl
theorem dropEC_enters : Enters Tryz.prog 119 := enters_of Tryz.func119 (by kernel_rfl) rfl
end Go.Proofs.YtpehmmdbjakkpaaGreat
namespace Go.Proofs.YtpehmmdbjakkpaaGreat
open Go.RowKit Go.Shelf
set_option linter.unusedSimpArgs false
set_option linter.unusedVariables false
def idxB {α : Type} (p : α → Bool) (xs : List α) : Int := match xs.findIdx? p with
 | some i => (i : Int)
 | none => -1
theorem idxB_at {α : Type} {p : α → Bool} {xs : List α} {k : Nat} {x : α} (hx : xs[k]? = some x) (hp : p x = true) (hno : ∀ (i : Nat) (y : α), i < k → xs[i]? = some y → p y = false) : idxB p xs = (k : Int) := by
 have hk : k < xs.length := (List.getElem?_eq_some_iff.1 hx).1
 have : xs.findIdx? p = some k := by
  rw [List.findIdx?_eq_some_iff_getElem]
  refine ⟨hk, ?_, fun j hj => ?_⟩
  ·
   rw [List.getElem?_eq_getElem hk] at hx
   injection hx with hx
   rw [hx]; exact hp
  ·
   have := hno j xs[j] hj (List.getElem?_eq_getElem (by omega))
   simp [this]
 unfold idxB
 rw [this]
theorem idxB_none {α : Type} {p : α → Bool} {xs : List α} (hno : ∀ (i : Nat) (y : α), xs[i]? = some y → p y = false) : idxB p xs = -1 := by
 have : xs.findIdx? p = none := by
  rw [List.findIdx?_eq_none_iff]
  intro x hx
  obtain ⟨i, hi⟩ := List.mem_iff_getElem?.1 hx
  exact hno i x hi
 unfold idxB
 rw [this]
theorem idxB_cases {α : Type} (p : α → Bool) (xs : List α) : (idxB p xs = -1 ∧ ∀ (i : Nat) (y : α), xs[i]? = some y → p y = false) ∨ (∃ (k : Nat) (x : α), idxB p xs = (k : Int) ∧ xs[k]? = some x ∧ p x = true ∧ ∀ (i : Nat) (y : α), i < k → xs[i]? = some y → p y = false) := by
 unfold idxB
 cases h : xs.findIdx? p with
 | none =>
  rw [List.findIdx?_eq_none_iff] at h
  exact .inl ⟨rfl, fun i y hy => h y (List.mem_of_getElem? hy)⟩
 | some k =>
  rw [List.findIdx?_eq_some_iff_getElem] at h
  obtain ⟨hk, h1, h2⟩ := h
  refine .inr ⟨k, xs[k], rfl, List.getElem?_eq_getElem hk, h1, fun i y hi hy => ?_⟩
  have := h2 i hi
  rw [List.getElem?_eq_getElem (by omega)] at hy
  injection hy with hy
  rw [← hy]
  simpa using this
set_option maxRecDepth 20000 in
set_option maxHeartbeats 4000000 in
theorem indexN_calls (w : World) (S T : Nat → Prop) (v : Value) (xs : List NV) (fid : Nat) (fr : Array Value) (p : NV → Bool) (eg : Enters Tryz.prog fid)
  (hf : ∀ (W : World) (x : NV), Kept w T W → Calls Tryz.prog fid (#[.agg #[.int .i64 x.id, .slice x.A x.n x.c]] ++ fr) W fun e W' => e = .returned (.bool (p x)) ∧ Below W.heap.size W W')
  (h : Row tNV w S v xs) (hlen : xs.length ≤ 1000000) : Calls Tryz.prog 121 #[v, .func (.func fid) #[] fr] w fun e w' => e = .returned (.int .i64 (idxB p xs)) ∧ Below w.heap.size w w' := by
 obtain ⟨A, c, rfl⟩ := h.slice
 have H := Lib.hid h
 have HF := Lib.hid hf
 have eg' : ∀ args w, (callFunc fid args).run Tryz.prog w = .ok (.enter fid args) w := eg
 clear h hf eg
 go_enter Tryz.func121, Tryz.ntmps121
 go_wp2
 go_loopw [8] (fun q wr => ∃ k : Nat, k ≤ xs.length ∧ q = .int .i64 (k : Int) ∧ Hid (∀ (i : Nat) (y : NV), i < k → xs[i]? = some y → p y = false) ∧ Hid (Below w.heap.size w wr)) (fun q _ => xs.length - (intOf q).toNat)
 case atStart => exact ⟨0, by omega, rfl, (fun i y h => by omega), Below.refl _ _⟩
 case round =>
  obtain ⟨wa, rfl⟩ : ∃ wa, wa = wr := ⟨wr, rfl⟩
  obtain ⟨k, hk, rfl, hno, hb⟩ := hrel
  have hwr := hb.out.size
  by_cases hlt : k < xs.length
  ·
   obtain ⟨x, hx⟩ := getElem?_of_lt hlt
   obtain ⟨b, off, rfl, _, hbl, x0, x1⟩ := (H.out.below hb.out).atNV hx
   have HX := Lib.hid hx
   clear hx
   go_wp2_with fail
   refine (HF.out wa x ((Kept.refl w T).below hb.out)).mono ?_
   rintro e w1 ⟨rfl, hb1⟩
   have K1 := Lib.hid (hb.out.trans (hb1.mono hwr))
   clear hb1
   cases hp : p x with
   | true =>
    have HI := Lib.hid (idxB_at HX.out hp hno.out)
    clear hp
    go_wp2
    go_ret
    exact ⟨by rw [HI.out]; rfl, K1.out⟩
   | false =>
    have HN := Lib.hid (show ∀ (i : Nat) (y : NV), i < k + 1 → xs[i]? = some y → p y = false from fun i y hi hy => by
     rcases Nat.lt_or_ge i k with h3 | h3
     ·
      exact hno.out i y h3 hy
     ·
      obtain rfl : i = k := by omega
      rw [HX.out] at hy
      injection hy with hy
      subst hy
      exact hp)
    clear hp
    go_wp2
    go_roundw
    case rel => exact ⟨k + 1, by omega, by first | (go_num; done) | (go_num; omega), HN, K1⟩
    case measure => simp [intOf]; omega
  ·
   obtain rfl : k = xs.length := by omega
   have HI := Lib.hid (idxB_none (fun i y hy => hno.out i y (List.getElem?_eq_some_iff.1 hy).1 hy))
   go_wp2
   go_ret
   exact ⟨by rw [HI.out]; rfl, hb.out⟩
set_option maxRecDepth 20000 in
set_option maxHeartbeats 4000000 in
theorem indexE_calls (w : World) (S T : Nat → Prop) (v : Value) (xs : List EdgeD) (fid : Nat) (fr : Array Value) (p : EdgeD → Bool) (eg : Enters Tryz.prog fid)
  (hf : ∀ (W : World) (x : EdgeD), Kept w T W → Calls Tryz.prog fid (#[.agg #[.int .i64 x.id, .int .i64 x.frm, .int .i64 x.to]] ++ fr) W fun e W' => e = .returned (.bool (p x)) ∧ Below W.heap.size W W')
  (h : Row tEdge w S v xs) (hlen : xs.length ≤ 1000000) : Calls Tryz.prog 130 #[v, .func (.func fid) #[] fr] w fun e w' => e = .returned (.int .i64 (idxB p xs)) ∧ Below w.heap.size w w' := by
 obtain ⟨A, c, rfl⟩ := h.slice
 have H := Lib.hid h
 have HF := Lib.hid hf
 have eg' : ∀ args w, (callFunc fid args).run Tryz.prog w = .ok (.enter fid args) w := eg
 clear h hf eg
 go_enter Tryz.func130, Tryz.ntmps130
 go_wp2
 go_loopw [8] (fun q wr => ∃ k : Nat, k ≤ xs.length ∧ q = .int .i64 (k : Int) ∧ Hid (∀ (i : Nat) (y : EdgeD), i < k → xs[i]? = some y → p y = false) ∧ Hid (Below w.heap.size w wr)) (fun q _ => xs.length - (intOf q).toNat)
 case atStart => exact ⟨0, by omega, rfl, (fun i y h => by omega), Below.refl _ _⟩
 case round =>
  obtain ⟨wa, rfl⟩ : ∃ wa, wa = wr := ⟨wr, rfl⟩
  obtain ⟨k, hk, rfl, hno, hb⟩ := hrel
  have hwr := hb.out.size
  by_cases hlt : k < xs.length
  ·
   obtain ⟨x, hx⟩ := getElem?_of_lt hlt
   obtain ⟨b, off, rfl, _, hbl, x0, x1, x2⟩ := (H.out.below hb.out).atEdge hx
   have HX := Lib.hid hx
   clear hx
   go_wp2_with fail
   refine (HF.out wa x ((Kept.refl w T).below hb.out)).mono ?_
   rintro e w1 ⟨rfl, hb1⟩
   have K1 := Lib.hid (hb.out.trans (hb1.mono hwr))
   clear hb1
   cases hp : p x with
   | true =>
    have HI := Lib.hid (idxB_at HX.out hp hno.out)
    clear hp
    go_wp2
    go_ret
    exact ⟨by rw [HI.out]; rfl, K1.out⟩
   | false =>
    have HN := Lib.hid (show ∀ (i : Nat) (y : EdgeD), i < k + 1 → xs[i]? = some y → p y = false from fun i y hi hy => by
     rcases Nat.lt_or_ge i k with h3 | h3
     ·
      exact hno.out i y h3 hy
     ·
      obtain rfl : i = k := by omega
      rw [HX.out] at hy
      injection hy with hy
      subst hy
      exact hp)
    clear hp
    go_wp2
    go_roundw
    case rel => exact ⟨k + 1, by omega, by first | (go_num; done) | (go_num; omega), HN, K1⟩
    case measure => simp [intOf]; omega
  ·
   obtain rfl : k = xs.length := by omega
   have HI := Lib.hid (idxB_none (fun i y hy => hno.out i y (List.getElem?_eq_some_iff.1 hy).1 hy))
   go_wp2
   go_ret
   exact ⟨by rw [HI.out]; rfl, hb.out⟩
/-- Where a node stands; -1: nowhere. -/
def atOf (xs : List NodeD) (n : Int) : Int := idxB (fun x => x.id == n) xs
theorem idxB_nv {w : World} {S : Nat → Prop} {nvs : List NV} {xs : List NodeD} (h : NVs w S nvs xs) (n : Int) : idxB (fun v : NV => v.id == n) nvs = atOf xs n := by
 rcases idxB_cases (fun x : NodeD => x.id == n) xs with ⟨e, hno⟩ | ⟨k, x, e, hx, hp, hno⟩
 ·
  unfold atOf
  rw [e]
  refine idxB_none fun i v hv => ?_
  have hi : i < xs.length := by rw [← h.len]; exact (List.getElem?_eq_some_iff.1 hv).1
  have := hno i xs[i] (List.getElem?_eq_getElem hi)
  rw [(h.each i v xs[i] hv (List.getElem?_eq_getElem hi)).1]
  exact this
 ·
  unfold atOf
  rw [e]
  obtain ⟨v, hv, hid, _⟩ := h.at hx
  refine idxB_at hv (by rw [hid]; exact hp) fun i u hi hu => ?_
  have hi2 : i < xs.length := by rw [← h.len]; exact (List.getElem?_eq_some_iff.1 hu).1
  have := hno i xs[i] hi (List.getElem?_eq_getElem hi2)
  rw [(h.each i u xs[i] hu (List.getElem?_eq_getElem hi2)).1]
  exact this
set_option maxRecDepth 20000 in
set_option maxHeartbeats 4000000 in
theorem at_calls (w : World) (S : Nat → Prop) (g : GraphD) (vn ve : Value) (n : Int) (h : Gr w S g vn ve) (hlen : g.nodes.length ≤ 1000000) : Calls Tryz.prog 111 #[.agg #[vn, ve, .int .i64 g.nn, .int .i64 g.ne], .int .i64 n] w fun e w' => e = .returned (.int .i64 (atOf g.nodes n)) ∧ Below w.heap.size w w' := by
 obtain ⟨⟨A1, c1, rfl⟩, ⟨A2, c2, rfl⟩⟩ := h.slices
 obtain ⟨⟨nvs, h1, h2⟩, h3⟩ := h
 have H := Lib.hid h1
 have HE := Lib.hid (idxB_nv h2 n)
 have HL := Lib.hid h2.len
 clear h1 h2 h3
 have hw : Below w.heap.size w ((w.alloc (.cells #[.slice A1 g.nodes.length c1, .slice A2 g.edges.length c2, .int .i64 g.nn, .int .i64 g.ne] 31)).alloc (.cells #[.int .i64 n] 3)) := ((Below.refl w.heap.size w).alloc (Nat.le_refl _) _).alloc (by simp) _
 have HW := Lib.hid hw
 have H1 := Lib.hid (H.out.below hw)
 clear hw
 go_enter Tryz.func111, Tryz.ntmps111
 go_wp2_with fail
 refine (indexN_calls _ S (fun k => k = w.heap.size + 1) _ nvs _ _ (fun v => v.id == n) atC_enters (fun W x hK => ?_) H1.out (by rw [HL.out]; exact hlen)).mono ?_
 ·
  refine atC_calls W x n (w.heap.size + 1) (by have := hK.1; simp at this; omega) ?_
  rw [hK.cell _ _ rfl (by simp)]
  simp [go_sem]
 rintro e w1 ⟨rfl, hb1⟩
 have K1 := Lib.hid (HW.out.trans (hb1.mono (by simp; omega)))
 clear hb1
 go_wp2
 go_ret
 exact ⟨by rw [HE.out]; rfl, K1.out⟩
end Go.Proofs.YtpehmmdbjakkpaaGreat
namespace Go.Proofs.YtpehmmdbjakkpaaGreat
open Go.RowKit Go.Shelf
set_option linter.unusedSimpArgs false
set_option linter.unusedVariables false
theorem run_clearN (w : World) (t e : TypeId) (z : Value) (ht : Tryz.prog.underlying t = some (.slice e)) (hv : ∀ w, (zeroValue e).run Tryz.prog w = .ok z w) (h1 : ∀ u ∈ z.cells.toList, u.oneCell' = true) (hz : 0 < z.cells.size) (b o n c : Nat)
  (hc : ∀ j, j < n * z.cells.size → (w.cell? ⟨b, o + j, none⟩).isSome = true) (hf : ∀ j, j < n * z.cells.size → w.frozen? ⟨b, o + j, none⟩ = false) :
  ∃ vs : List Value, vs.length = n * z.cells.size ∧ ∀ ty, (Builtin.clear_ #[t] ty #[.slice (some ⟨b, o, none⟩) n c]).run Tryz.prog w = .ok (.tuple #[]) (w.setCells b o vs) := by
 rcases n with _ | m
 ·
  exact ⟨[], by simp, fun ty => by simp [Builtin.clear_, run_underlying ht, World.setCells]⟩
 ·
  refine ⟨(Builtin.zeroCells z.cells (m + 1)).toList, by simp [Builtin.zeroCells], ?_⟩
  have hst := run_storeCells_cells (P := Tryz.prog) b o (Builtin.zeroCells z.cells (m + 1)).toList 0 w (by simpa [Builtin.zeroCells] using hc) (by simpa [Builtin.zeroCells] using hf) (by
   intro v hv'
   simp only [Builtin.zeroCells, Array.toList_map, List.mem_map, Array.toList_range, List.mem_range] at hv'
   obtain ⟨i, _, rfl⟩ := hv'
   refine h1 _ ?_
   have hi : i % z.cells.size < z.cells.size := Nat.mod_lt _ hz
   rw [getElem!_pos z.cells _ hi]
   simp)
  simp only [Nat.add_zero] at hst
  intro ty
  simp [Builtin.clear_, run_underlying ht, hv, hst]
theorem take_set_of_le {α : Type} {l : List α} {m o : Nat} {u : α} (h : m ≤ o) : (l.set o u).take m = l.take m := by
 apply List.ext_getElem?
 intro i
 rw [List.getElem?_take, List.getElem?_take]
 split
 ·
  rw [List.getElem?_set_ne (by omega)]
 ·
  rfl
theorem setCells_row {base : Nat} {e : TypeId} {sz g n c m : Nat} : ∀ (vs : List Value) (o : Nat) (w : World) (inner : List Value), w.ownsRow base e sz (.slice (some ⟨g, 0, none⟩) n c) n inner → m ≤ o → ∃ inner', (w.setCells g o vs).ownsRow base e sz (.slice (some ⟨g, 0, none⟩) n c) n inner' ∧ inner'.take m = inner.take m := by
 intro vs
 induction vs with
 | nil => intro o w inner h _; exact ⟨inner, h, rfl⟩
 | cons v r ih =>
  intro o w inner h ho
  obtain ⟨inner', h1, h2⟩ := ih (o + 1) _ _ (h.stored o v).1 (by omega)
  exact ⟨inner', h1, by rw [h2, take_set_of_le ho]⟩
theorem setCells_heap {g : Nat} : ∀ (vs : List Value) (o : Nat) (w : World) (k : Nat), k ≠ g → (w.setCells g o vs).heap[k]? = w.heap[k]? := by
 intro vs
 induction vs with
 | nil => intro o w k _; rfl
 | cons v r ih =>
  intro o w k hk
  show ((w.setCell ⟨g, o, none⟩ v).setCells g (o + 1) r).heap[k]? = _
  rw [ih _ _ _ hk, Below.heap_setCell _ ⟨g, o, none⟩ _ k hk]
theorem setCells_below {g B : Nat} {w0 : World} (hg : B ≤ g) : ∀ (vs : List Value) (o : Nat) (w : World), Below B w0 w → Below B w0 (w.setCells g o vs) := by
 intro vs
 induction vs with
 | nil => intro o w h; exact h
 | cons v r ih => intro o w h; exact ih _ _ (h.setCell hg _)
theorem setCells_size {g : Nat} : ∀ (vs : List Value) (o : Nat) (w : World), (w.setCells g o vs).heap.size = w.heap.size := by
 intro vs
 induction vs with
 | nil => intro o w; rfl
 | cons v r ih =>
  intro o w
  show ((w.setCell ⟨g, o, none⟩ v).setCells g (o + 1) r).heap.size = _
  rw [ih, World.size_setCell]
theorem Own.isSomeO {α : Type} {t : Ty α} {w : World} {e : TypeId} {S : Nat → Prop} {g n c : Nat} {xs : List α}
  (h : Own t e w S (.slice (some ⟨g, 0, none⟩) n c) xs) {o : Nat} (ho : o < n * t.sz) : (w.cell? ⟨g, o, none⟩).isSome = true := by
 have hn := h.n_eq
 obtain ⟨hS, inner, hr, hk⟩ := h
 subst hn
 rcases hr.2 with ⟨r2, _⟩ | ⟨g', cap, cur, hv, hg, hh, hnc, hcm, hcs, ht⟩
 ·
  simp at r2
 ·
  injection hv with e1 _ e3
  injection e1 with e1
  injection e1 with e1
  subst e1 e3
  have h1 : xs.length * t.sz ≤ c * t.sz := Nat.mul_le_mul_right t.sz hnc
  simp [World.cell?, hh]
  omega
/-- The tail is written over, and the slice cut ahead of it. -/
theorem Own.cutTail {α : Type} {sz : Nat} {pos : 0 < sz} {enc : α → List Value} {hl : ∀ x, (enc x).length = sz} {h1 : ∀ x, ∀ u ∈ enc x, u.oneCell' = true} {w : World} {e : TypeId} {S : Nat → Prop} {g n c : Nat} {xs : List α}
  (h : Own (Ty.flat sz pos enc hl h1) e w S (.slice (some ⟨g, 0, none⟩) n c) xs) {i : Nat} (hi : i ≤ n) (vs : List Value) :
  Own (Ty.flat sz pos enc hl h1) e (w.setCells g (i * sz) vs) S (.slice (some ⟨g, 0, none⟩) i c) (xs.take i) := by
 have hn := h.n_eq
 obtain ⟨hS, inner, ho, hk⟩ := h
 subst hn
 have hlen : (xs.take i).length = i := by rw [List.length_take]; omega
 obtain ⟨inner', h2, h3⟩ := setCells_row (m := i * sz) vs (i * sz) w inner ho (Nat.le_refl _)
 have hle : i * sz ≤ xs.length * sz := Nat.mul_le_mul_right sz hi
 refine ⟨fun k hk => hS k hk, inner'.take (i * sz), ?_, fun j x hj => ?_⟩
 ·
  rw [hlen]
  obtain ⟨r1, r2⟩ := h2
  rcases r2 with ⟨r2, _⟩ | ⟨g', cap, cur, hv, hg, hh, hnc, hcm, hcs, ht⟩
  ·
   simp at r2
  ·
   injection hv with e1 _ e3
   injection e1 with e1
   injection e1 with e1
   subst e1 e3
   refine ⟨by rw [List.length_take, r1]; show min (i * sz) (xs.length * sz) = i * sz; omega, .inr ⟨g, c, cur, rfl, hg, hh, by omega, hcm, hcs, ?_⟩⟩
   rw [← ht, List.take_take]
   show _ = List.take (min (i * sz) (xs.length * sz)) _
   rw [Nat.min_eq_left hle]
   rfl
 ·
  show ((inner'.take (i * sz)).drop (j * sz)).take sz = enc x
  rw [h3]
  rw [List.getElem?_take] at hj
  split at hj
  ·
   rename_i hji
   have h4 : (inner.drop (j * sz)).take sz = enc x := hk j x hj
   rw [← h4, List.drop_take, List.take_take]
   have : (j + 1) * sz ≤ i * sz := Nat.mul_le_mul_right sz hji
   rw [Nat.add_mul, Nat.one_mul] at this
   rw [Nat.min_eq_left (by omega)]
  ·
   cases hj
theorem zero_of {P : Program} {e : TypeId} {i : TypeInfo} {z : Value} (hi : P.info? e = some i) (hz : i.zero = some z) (w : World) : (zeroValue e).run P w = .ok z w := by
 simp [zeroValue, typeInfo, hi, hz]
theorem zeroNode (w : World) : (zeroValue 72).run Tryz.prog w = .ok (.agg #[.int .i64 0, .slice none 0 0]) w := by
 obtain ⟨i, hi, hz⟩ := Option.map_eq_some_iff.1 elemNodes.info
 have hz1 := congrArg Prod.fst hz
 exact zero_of hi hz1 w
theorem zeroEdge (w : World) : (zeroValue 75).run Tryz.prog w = .ok (.agg #[.int .i64 0, .int .i64 0, .int .i64 0]) w := by
 obtain ⟨i, hi, hz⟩ := Option.map_eq_some_iff.1 elemEdges.info
 have hz1 := congrArg Prod.fst hz
 exact zero_of hi hz1 w
end Go.Proofs.YtpehmmdbjakkpaaGreat
namespace Go.Proofs.YtpehmmdbjakkpaaGreat
open Go.RowKit Go.Shelf
set_option linter.unusedSimpArgs false
set_option linter.unusedVariables false
set_option maxRecDepth 20000 in
set_option maxHeartbeats 8000000 in
theorem deleteN_calls (w0 w : World) (B : Nat) (T : Nat → Prop) (v : Value) (xs : List NV) (fid : Nat) (fr : Array Value) (p : NV → Bool) (eg : Enters Tryz.prog fid)
  (hf : ∀ (W : World) (x : NV), Kept w T W → Calls Tryz.prog fid (#[.agg #[.int .i64 x.id, .slice x.A x.n x.c]] ++ fr) W fun e W' => e = .returned (.bool (p x)) ∧ Below W.heap.size W W')
  (h : Own tNV 72 w (fun k => B ≤ k) v xs) (hT : ∀ k, v.ownBlock = some k → ¬ T k) (hB : Below B w0 w) (hBw : B ≤ w.heap.size) (hlen : xs.length ≤ 1000000) : Calls Tryz.prog 129 #[v, .func (.func fid) #[] fr] w fun e w' => ∃ v', e = .returned v' ∧ Own tNV 72 w' (fun k => B ≤ k) v' (xs.filter fun x => !p x) ∧ v'.ownBlock = v.ownBlock ∧ Below B w0 w' ∧ Same (fun k => v.ownBlock ≠ some k) w w' ∧ w.heap.size ≤ w'.heap.size := by
 obtain ⟨A, c, rfl⟩ := h.slice
 have H := Lib.hid h
 have HF := Lib.hid hf
 have HT := Lib.hid hT
 have HB := Lib.hid hB
 have HEG := Lib.hid eg
 have eg' : ∀ args w, (callFunc fid args).run Tryz.prog w = .ok (.enter fid args) w := eg
 clear h hf eg hT hB
 go_enter Tryz.func129, Tryz.ntmps129
 go_wp2_with fail
 refine (indexN_calls w _ T _ xs fid fr p HEG.out HF.out H.out.row hlen).mono ?_
 rintro e w1 ⟨rfl, hb1⟩
 have K1 := Lib.hid hb1
 have H1 := Lib.hid (H.out.below hb1)
 have s1 := hb1.size
 have HB1 := Lib.hid (HB.out.trans (hb1.mono hBw))
 clear hb1
 rcases idxB_cases p xs with ⟨hi, hno⟩ | ⟨k0, z0, hi, hz0, hp0, hno⟩
 ·
  have HE := Lib.hid (show xs.filter (fun x => !p x) = xs from List.filter_eq_self.2 fun x hx => by
   obtain ⟨i, hi⟩ := List.mem_iff_getElem?.1 hx
   rw [hno i x hi]; rfl)
  rw [hi]
  clear hi hno
  go_wp2
  go_ret
  exact ⟨_, rfl, by rw [HE.out]; exact H1.out, rfl, HB1.out, Same.of_below K1.out, s1⟩
 rw [hi]
 have hk0 : k0 < xs.length := (List.getElem?_eq_some_iff.1 hz0).1
 obtain ⟨g, rfl, hgB, hgl⟩ := H1.out.head (by omega)
 have HK := Lib.hid (show xs.take k0 = (xs.take (k0 + 1)).filter (fun x => !p x) by
  rw [List.take_add_one, hz0, Option.toList_some, List.filter_append, List.filter_eq_self.2 (fun x hx => by
   obtain ⟨i, hi⟩ := List.mem_iff_getElem?.1 hx
   have hi2 : i < k0 := by have := (List.getElem?_eq_some_iff.1 hi).1; rw [List.length_take] at this; omega
   rw [List.getElem?_take, if_pos hi2] at hi
   rw [hno i x hi2 hi]; rfl)]
  simp [hp0])
 clear hi hno hz0 hp0
 have hk1 : ((k0 : Int) == -1) = false := beq_eq_false_iff_ne.mpr (by omega)
 go_wp2
 clear hk1
 go_loopw [5, 6] (fun q5 q6 wr => ∃ (i j : Nat) (ys : List NV), i < j ∧ j ≤ xs.length ∧ q5 = .int .i64 (i : Int) ∧ q6 = .int .i64 (j : Int) ∧ Hid (ys.length = xs.length) ∧ Hid (ys.take i = (xs.take j).filter fun x => !p x) ∧ Hid (ys.drop j = xs.drop j) ∧ Hid (Own tNV 72 wr (fun k => B ≤ k) (.slice (some ⟨g, 0, none⟩) xs.length c) ys) ∧ Hid (Below B w0 wr) ∧ Hid (Same (fun k => k ≠ g) w1 wr) ∧ w1.heap.size ≤ wr.heap.size) (fun _ q6 _ => xs.length - (intOf q6).toNat)
 case atStart => exact ⟨k0, k0 + 1, xs, by omega, by omega, rfl, by first | (go_num; done) | (go_num; omega) | rfl, Lib.hid rfl, HK, Lib.hid rfl, H1, HB1, (fun _ _ _ => rfl), Nat.le_refl _⟩
 case round =>
  obtain ⟨wa, rfl⟩ : ∃ wa, wa = wr := ⟨wr, rfl⟩
  obtain ⟨i, j, ys, hij, hj, rfl, rfl, hyl, hyt, hyd, ho, hb, hsm, hsz⟩ := hrel
  have hba := hb.out.size
  by_cases hlt : j < xs.length
  ·
   obtain ⟨x, hx⟩ := getElem?_of_lt hlt
   have hyj : ys[j]? = some x := by
    have h1 : (ys.drop j)[0]? = (xs.drop j)[0]? := by rw [hyd.out]
    rw [List.getElem?_drop, List.getElem?_drop, Nat.add_zero, hx] at h1
    exact h1
   have hil : i < ys.length := by rw [hyl.out]; omega
   obtain ⟨y, hyi⟩ := getElem?_of_lt hil
   obtain ⟨b', off', hA, _, _, x0, x1⟩ := ho.out.row.atNV hyj
   injection hA with hA
   injection hA with h1 h2
   subst h1 h2
   simp only [Nat.zero_add] at x0 x1
   have HX := Lib.hid hx
   have HYI := Lib.hid hyi
   have HYJ := Lib.hid hyj
   have g1 : wa.heap.size < wa.heap.size + 1 := by omega
   have g2 : g < wa.heap.size + 1 := by omega
   have HKP := Lib.hid (show Kept w T (wa.alloc (.cells #[.int .i64 x.id, .slice x.A x.n x.c] 72)) from Kept.alloc ⟨by omega, fun k hk hl => (hsm.out k (fun e => HT.out k (by rw [e]; rfl) hk) (by omega)).trans (K1.out.block k hl)⟩ _)
   clear hx hyi hyj
   go_wp2_with fail
   refine (HF.out _ x HKP.out).mono ?_
   rintro e w2 ⟨rfl, hb2⟩
   have KB := Lib.hid ((Below.heap1 wa (.cells #[.int .i64 x.id, .slice x.A x.n x.c] 72)).trans (hb2.mono (by simp)))
   have hc2 := (bcell hb2).1
   have hf2 := (bcell hb2).2
   have s2 := hb2.size
   clear hb2
   simp only [World.size_alloc] at s2 hc2 hf2
   have g3 : wa.heap.size < w2.heap.size := by omega
   have g4 : g < w2.heap.size := by omega
   have H2 := Lib.hid (ho.out.below KB.out)
   have HB2 := Lib.hid (hb.out.trans (KB.out.mono (by omega)))
   have HS2 := Lib.hid (hsm.out.trans hsz (Same.of_below KB.out))
   cases hp : p x with
   | true =>
    have HT2 := Lib.hid (show ys.take i = (xs.take (j + 1)).filter (fun x => !p x) by
     rw [hyt.out, List.take_add_one, HX.out, Option.toList_some, List.filter_append]; simp [hp])
    have HD2 := Lib.hid (show ys.drop (j + 1) = xs.drop (j + 1) by rw [← List.drop_drop, ← List.drop_drop, hyd.out])
    clear hp
    go_wp2
    go_roundw
    case rel => exact ⟨i, j + 1, ys, by omega, by omega, rfl, by first | (go_num; done) | (go_num; omega), hyl, HT2, HD2, H2, HB2, HS2, by omega⟩
    case measure => simp [intOf]; omega
   | false =>
    have hyi := HYI.out
    have hil2 : i < xs.length := by omega
    obtain ⟨b', off', hA, _, _, y0, y1⟩ := ho.out.row.atNV hyi
    injection hA with hA
    injection hA with h1 h2
    subst h1 h2
    simp only [Nat.zero_add] at y0 y1
    have N1 : Own tNV 72 (w2.setCell ⟨g, i * 2 + 0, none⟩ (.int .i64 x.id)) (fun k => B ≤ k) (.slice (some ⟨g, 0, none⟩) xs.length c) (ys.set i ⟨x.id, y.A, y.n, y.c⟩) := H2.out.setFlat (p := i) (i := 0) (y := y) (y' := ⟨x.id, y.A, y.n, y.c⟩) (u := .int .i64 x.id) hyi (by decide) rfl
    have N2 : Own tNV 72 ((w2.setCell ⟨g, i * 2 + 0, none⟩ (.int .i64 x.id)).setCell ⟨g, i * 2 + 1, none⟩ (.slice x.A x.n x.c)) (fun k => B ≤ k) (.slice (some ⟨g, 0, none⟩) xs.length c) ((ys.set i ⟨x.id, y.A, y.n, y.c⟩).set i x) := N1.setFlat (p := i) (i := 1) (y := ⟨x.id, y.A, y.n, y.c⟩) (y' := x) (u := .slice x.A x.n x.c) (by simp [hil]) (by decide) rfl
    simp only [List.set_set] at N2
    have N := Lib.hid N2
    have hfz := fun o => ho.out.frozenC o
    have HT2 := Lib.hid (show (ys.set i x).take (i + 1) = (xs.take (j + 1)).filter (fun x => !p x) by
     rw [List.take_add_one, take_set_of_le (Nat.le_refl _), hyt.out, List.take_add_one (l := xs), HX.out, Option.toList_some, List.filter_append]; simp [hp, hil])
    have HD2 := Lib.hid (show (ys.set i x).drop (j + 1) = xs.drop (j + 1) by rw [List.drop_set_of_lt (by omega), ← List.drop_drop, ← List.drop_drop, hyd.out])
    have HL2 := Lib.hid (show (ys.set i x).length = xs.length by rw [List.length_set]; exact hyl.out)
    clear hp N1 N2 hyi
    go_wp2
    go_roundw
    case rel => exact ⟨i + 1, j + 1, ys.set i x, by omega, by omega, by first | (go_num; done) | (go_num; omega), by first | (go_num; done) | (go_num; omega), HL2, HT2, HD2, N, Lib.hid ((HB2.out.setCell (p := ⟨g, i * 2, none⟩) hgB (.int .i64 x.id)).setCell (p := ⟨g, i * 2 + 1, none⟩) hgB (.slice x.A x.n x.c)), Lib.hid (HS2.out.trans (by omega) ((Same.of_setCell _ ⟨g, i * 2, none⟩ (.int .i64 x.id) (fun k hk => hk)).trans (by simp) (Same.of_setCell _ ⟨g, i * 2 + 1, none⟩ (.slice x.A x.n x.c) (fun k hk => hk)))), by simp; omega⟩
    case measure => simp [intOf]; omega
  ·
   obtain rfl : j = xs.length := by omega
   have hcap := ho.out.row.n_eq.2.1
   have hcap2 := ho.out.row.n_eq.2.2.1
   unfold maxLen at hcap2
   have hfzo := fun o => ho.out.frozenC o
   obtain ⟨vs, hvl, hcl⟩ := run_clearN wa 28 72 (.agg #[.int .i64 0, .slice none 0 0]) Tryz.underlying28 zeroNode (by intro u hu; simp [Value.cells] at hu; rcases hu with rfl | rfl <;> rfl) (by decide) g (i * 2) (xs.length - i) (c - i)
    (fun q hq => ho.out.isSomeO (by have h1 : q < (xs.length - i) * 2 := hq; show i * 2 + q < xs.length * 2; omega)) (fun q hq => hfzo _)
   have HE := Lib.hid (show ys.take i = xs.filter (fun x => !p x) by rw [hyt.out, List.take_length])
   have HO := Lib.hid (ho.out.cutTail (i := i) (by omega) vs)
   clear hvl hfzo
   go_wp2
   go_ret
   exact ⟨_, rfl, by rw [← HE.out]; exact HO.out, rfl, setCells_below hgB vs (i * 2) _ hb.out, (Same.of_below K1.out).trans s1 ((hsm.out.mono fun k hk e => hk (by rw [e]; rfl)).trans hsz (fun k hk _ => setCells_heap vs (i * 2) _ k (fun e => hk (by rw [e]; rfl)))), by rw [setCells_size]; omega⟩
set_option maxRecDepth 20000 in
set_option maxHeartbeats 8000000 in
theorem deleteE_calls (w0 w : World) (B : Nat) (T : Nat → Prop) (v : Value) (xs : List EdgeD) (fid : Nat) (fr : Array Value) (p : EdgeD → Bool) (eg : Enters Tryz.prog fid)
  (hf : ∀ (W : World) (x : EdgeD), Kept w T W → Calls Tryz.prog fid (#[.agg #[.int .i64 x.id, .int .i64 x.frm, .int .i64 x.to]] ++ fr) W fun e W' => e = .returned (.bool (p x)) ∧ Below W.heap.size W W')
  (h : Own tEdge 75 w (fun k => B ≤ k) v xs) (hT : ∀ k, v.ownBlock = some k → ¬ T k) (hB : Below B w0 w) (hBw : B ≤ w.heap.size) (hlen : xs.length ≤ 1000000) : Calls Tryz.prog 123 #[v, .func (.func fid) #[] fr] w fun e w' => ∃ v', e = .returned v' ∧ Own tEdge 75 w' (fun k => B ≤ k) v' (xs.filter fun x => !p x) ∧ v'.ownBlock = v.ownBlock ∧ Below B w0 w' ∧ Same (fun k => v.ownBlock ≠ some k) w w' ∧ w.heap.size ≤ w'.heap.size := by
 obtain ⟨A, c, rfl⟩ := h.slice
 have H := Lib.hid h
 have HF := Lib.hid hf
 have HT := Lib.hid hT
 have HB := Lib.hid hB
 have HEG := Lib.hid eg
 have eg' : ∀ args w, (callFunc fid args).run Tryz.prog w = .ok (.enter fid args) w := eg
 clear h hf eg hT hB
 go_enter Tryz.func123, Tryz.ntmps123
 go_wp2_with fail
 refine (indexE_calls w _ T _ xs fid fr p HEG.out HF.out H.out.row hlen).mono ?_
 rintro e w1 ⟨rfl, hb1⟩
 have K1 := Lib.hid hb1
 have H1 := Lib.hid (H.out.below hb1)
 have s1 := hb1.size
 have HB1 := Lib.hid (HB.out.trans (hb1.mono hBw))
 clear hb1
 rcases idxB_cases p xs with ⟨hi, hno⟩ | ⟨k0, z0, hi, hz0, hp0, hno⟩
 ·
  have HE := Lib.hid (show xs.filter (fun x => !p x) = xs from List.filter_eq_self.2 fun x hx => by
   obtain ⟨i, hi⟩ := List.mem_iff_getElem?.1 hx
   rw [hno i x hi]; rfl)
  rw [hi]
  clear hi hno
  go_wp2
  go_ret
  exact ⟨_, rfl, by rw [HE.out]; exact H1.out, rfl, HB1.out, Same.of_below K1.out, s1⟩
 rw [hi]
 have hk0 : k0 < xs.length := (List.getElem?_eq_some_iff.1 hz0).1
 obtain ⟨g, rfl, hgB, hgl⟩ := H1.out.head (by omega)
 have HK := Lib.hid (show xs.take k0 = (xs.take (k0 + 1)).filter (fun x => !p x) by
  rw [List.take_add_one, hz0, Option.toList_some, List.filter_append, List.filter_eq_self.2 (fun x hx => by
   obtain ⟨i, hi⟩ := List.mem_iff_getElem?.1 hx
   have hi2 : i < k0 := by have := (List.getElem?_eq_some_iff.1 hi).1; rw [List.length_take] at this; omega
   rw [List.getElem?_take, if_pos hi2] at hi
   rw [hno i x hi2 hi]; rfl)]
  simp [hp0])
 clear hi hno hz0 hp0
 have hk1 : ((k0 : Int) == -1) = false := beq_eq_false_iff_ne.mpr (by omega)
 go_wp2
 clear hk1
 go_loopw [5, 6] (fun q5 q6 wr => ∃ (i j : Nat) (ys : List EdgeD), i < j ∧ j ≤ xs.length ∧ q5 = .int .i64 (i : Int) ∧ q6 = .int .i64 (j : Int) ∧ Hid (ys.length = xs.length) ∧ Hid (ys.take i = (xs.take j).filter fun x => !p x) ∧ Hid (ys.drop j = xs.drop j) ∧ Hid (Own tEdge 75 wr (fun k => B ≤ k) (.slice (some ⟨g, 0, none⟩) xs.length c) ys) ∧ Hid (Below B w0 wr) ∧ Hid (Same (fun k => k ≠ g) w1 wr) ∧ w1.heap.size ≤ wr.heap.size) (fun _ q6 _ => xs.length - (intOf q6).toNat)
 case atStart => exact ⟨k0, k0 + 1, xs, by omega, by omega, rfl, by first | (go_num; done) | (go_num; omega) | rfl, Lib.hid rfl, HK, Lib.hid rfl, H1, HB1, (fun _ _ _ => rfl), Nat.le_refl _⟩
 case round =>
  obtain ⟨wa, rfl⟩ : ∃ wa, wa = wr := ⟨wr, rfl⟩
  obtain ⟨i, j, ys, hij, hj, rfl, rfl, hyl, hyt, hyd, ho, hb, hsm, hsz⟩ := hrel
  have hba := hb.out.size
  by_cases hlt : j < xs.length
  ·
   obtain ⟨x, hx⟩ := getElem?_of_lt hlt
   have hyj : ys[j]? = some x := by
    have h1 : (ys.drop j)[0]? = (xs.drop j)[0]? := by rw [hyd.out]
    rw [List.getElem?_drop, List.getElem?_drop, Nat.add_zero, hx] at h1
    exact h1
   have hil : i < ys.length := by rw [hyl.out]; omega
   obtain ⟨y, hyi⟩ := getElem?_of_lt hil
   obtain ⟨b', off', hA, _, _, x0, x1, x2⟩ := ho.out.row.atEdge hyj
   injection hA with hA
   injection hA with h1 h2
   subst h1 h2
   simp only [Nat.zero_add] at x0 x1 x2
   have HX := Lib.hid hx
   have HYI := Lib.hid hyi
   have HYJ := Lib.hid hyj
   have g1 : wa.heap.size < wa.heap.size + 1 := by omega
   have g2 : g < wa.heap.size + 1 := by omega
   have HKP := Lib.hid (show Kept w T (wa.alloc (.cells #[.int .i64 x.id, .int .i64 x.frm, .int .i64 x.to] 75)) from Kept.alloc ⟨by omega, fun k hk hl => (hsm.out k (fun e => HT.out k (by rw [e]; rfl) hk) (by omega)).trans (K1.out.block k hl)⟩ _)
   clear hx hyi hyj
   go_wp2_with fail
   refine (HF.out _ x HKP.out).mono ?_
   rintro e w2 ⟨rfl, hb2⟩
   have KB := Lib.hid ((Below.heap1 wa (.cells #[.int .i64 x.id, .int .i64 x.frm, .int .i64 x.to] 75)).trans (hb2.mono (by simp)))
   have hc2 := (bcell hb2).1
   have hf2 := (bcell hb2).2
   have s2 := hb2.size
   clear hb2
   simp only [World.size_alloc] at s2 hc2 hf2
   have g3 : wa.heap.size < w2.heap.size := by omega
   have g4 : g < w2.heap.size := by omega
   have H2 := Lib.hid (ho.out.below KB.out)
   have HB2 := Lib.hid (hb.out.trans (KB.out.mono (by omega)))
   have HS2 := Lib.hid (hsm.out.trans hsz (Same.of_below KB.out))
   cases hp : p x with
   | true =>
    have HT2 := Lib.hid (show ys.take i = (xs.take (j + 1)).filter (fun x => !p x) by
     rw [hyt.out, List.take_add_one, HX.out, Option.toList_some, List.filter_append]; simp [hp])
    have HD2 := Lib.hid (show ys.drop (j + 1) = xs.drop (j + 1) by rw [← List.drop_drop, ← List.drop_drop, hyd.out])
    clear hp
    go_wp2
    go_roundw
    case rel => exact ⟨i, j + 1, ys, by omega, by omega, rfl, by first | (go_num; done) | (go_num; omega), hyl, HT2, HD2, H2, HB2, HS2, by omega⟩
    case measure => simp [intOf]; omega
   | false =>
    have hyi := HYI.out
    have hil2 : i < xs.length := by omega
    obtain ⟨b', off', hA, _, _, y0, y1, y2⟩ := ho.out.row.atEdge hyi
    injection hA with hA
    injection hA with h1 h2
    subst h1 h2
    simp only [Nat.zero_add] at y0 y1 y2
    have N1 : Own tEdge 75 (w2.setCell ⟨g, i * 3 + 0, none⟩ (.int .i64 x.id)) (fun k => B ≤ k) (.slice (some ⟨g, 0, none⟩) xs.length c) (ys.set i ⟨x.id, y.frm, y.to⟩) := H2.out.setFlat (p := i) (i := 0) (y := y) (y' := ⟨x.id, y.frm, y.to⟩) (u := .int .i64 x.id) hyi (by decide) rfl
    have N2 : Own tEdge 75 ((w2.setCell ⟨g, i * 3 + 0, none⟩ (.int .i64 x.id)).setCell ⟨g, i * 3 + 1, none⟩ (.int .i64 x.frm)) (fun k => B ≤ k) (.slice (some ⟨g, 0, none⟩) xs.length c) ((ys.set i ⟨x.id, y.frm, y.to⟩).set i ⟨x.id, x.frm, y.to⟩) := N1.setFlat (p := i) (i := 1) (y := ⟨x.id, y.frm, y.to⟩) (y' := ⟨x.id, x.frm, y.to⟩) (u := .int .i64 x.frm) (by simp [hil]) (by decide) rfl
    have N3 : Own tEdge 75 (((w2.setCell ⟨g, i * 3 + 0, none⟩ (.int .i64 x.id)).setCell ⟨g, i * 3 + 1, none⟩ (.int .i64 x.frm)).setCell ⟨g, i * 3 + 2, none⟩ (.int .i64 x.to)) (fun k => B ≤ k) (.slice (some ⟨g, 0, none⟩) xs.length c) (((ys.set i ⟨x.id, y.frm, y.to⟩).set i ⟨x.id, x.frm, y.to⟩).set i x) := N2.setFlat (p := i) (i := 2) (y := ⟨x.id, x.frm, y.to⟩) (y' := x) (u := .int .i64 x.to) (by simp [hil]) (by decide) rfl
    simp only [List.set_set] at N3
    have N := Lib.hid N3
    have hfz := fun o => ho.out.frozenC o
    have HT2 := Lib.hid (show (ys.set i x).take (i + 1) = (xs.take (j + 1)).filter (fun x => !p x) by
     rw [List.take_add_one, take_set_of_le (Nat.le_refl _), hyt.out, List.take_add_one (l := xs), HX.out, Option.toList_some, List.filter_append]; simp [hp, hil])
    have HD2 := Lib.hid (show (ys.set i x).drop (j + 1) = xs.drop (j + 1) by rw [List.drop_set_of_lt (by omega), ← List.drop_drop, ← List.drop_drop, hyd.out])
    have HL2 := Lib.hid (show (ys.set i x).length = xs.length by rw [List.length_set]; exact hyl.out)
    clear hp N1 N2 N3 hyi
    go_wp2
    go_roundw
    case rel => exact ⟨i + 1, j + 1, ys.set i x, by omega, by omega, by first | (go_num; done) | (go_num; omega), by first | (go_num; done) | (go_num; omega), HL2, HT2, HD2, N, Lib.hid (((HB2.out.setCell (p := ⟨g, i * 3, none⟩) hgB (.int .i64 x.id)).setCell (p := ⟨g, i * 3 + 1, none⟩) hgB (.int .i64 x.frm)).setCell (p := ⟨g, i * 3 + 2, none⟩) hgB (.int .i64 x.to)), Lib.hid (HS2.out.trans (by omega) (((Same.of_setCell _ ⟨g, i * 3, none⟩ (.int .i64 x.id) (fun k hk => hk)).trans (by simp) (Same.of_setCell _ ⟨g, i * 3 + 1, none⟩ (.int .i64 x.frm) (fun k hk => hk))).trans (by simp) (Same.of_setCell _ ⟨g, i * 3 + 2, none⟩ (.int .i64 x.to) (fun k hk => hk)))), by simp; omega⟩
    case measure => simp [intOf]; omega
  ·
   obtain rfl : j = xs.length := by omega
   have hcap := ho.out.row.n_eq.2.1
   have hcap2 := ho.out.row.n_eq.2.2.1
   unfold maxLen at hcap2
   have hfzo := fun o => ho.out.frozenC o
   obtain ⟨vs, hvl, hcl⟩ := run_clearN wa 29 75 (.agg #[.int .i64 0, .int .i64 0, .int .i64 0]) Tryz.underlying29 zeroEdge (by intro u hu; simp [Value.cells] at hu; rcases hu with rfl | rfl | rfl <;> rfl) (by decide) g (i * 3) (xs.length - i) (c - i)
    (fun q hq => ho.out.isSomeO (by have h1 : q < (xs.length - i) * 3 := hq; show i * 3 + q < xs.length * 3; omega)) (fun q hq => hfzo _)
   have HE := Lib.hid (show ys.take i = xs.filter (fun x => !p x) by rw [hyt.out, List.take_length])
   have HO := Lib.hid (ho.out.cutTail (i := i) (by omega) vs)
   clear hvl hfzo
   go_wp2
   go_ret
   exact ⟨_, rfl, by rw [← HE.out]; exact HO.out, rfl, setCells_below hgB vs (i * 3) _ hb.out, (Same.of_below K1.out).trans s1 ((hsm.out.mono fun k hk e => hk (by rw [e]; rfl)).trans hsz (fun k hk _ => setCells_heap vs (i * 3) _ k (fun e => hk (by rw [e]; rfl)))), by rw [setCells_size]; omega⟩
end Go.Proofs.YtpehmmdbjakkpaaGreat
namespace Go.Proofs.YtpehmmdbjakkpaaGreat
open Go.RowKit Go.Shelf
set_option linter.unusedSimpArgs false
set_option linter.unusedVariables false
set_option maxRecDepth 20000 in
set_option maxHeartbeats 4000000 in
theorem withoutN_calls (w : World) (S T : Nat → Prop) (v : Value) (xs : List NV) (fid : Nat) (fr : Array Value) (p : NV → Bool) (eg : Enters Tryz.prog fid)
  (hf : ∀ (W : World) (x : NV), Kept w T W → Calls Tryz.prog fid (#[.agg #[.int .i64 x.id, .slice x.A x.n x.c]] ++ fr) W fun e W' => e = .returned (.bool (p x)) ∧ Below W.heap.size W W')
  (h : Row tNV w S v xs) (hT : ∀ k, T k → k < w.heap.size) (hlen : xs.length ≤ 1000000) : Calls Tryz.prog 117 #[v, .func (.func fid) #[] fr] w (RetOwn tNV 72 w (xs.filter fun x => !p x)) := by
 obtain ⟨A, c, rfl⟩ := h.slice
 have H := Lib.hid h
 have HF := Lib.hid hf
 have HT := Lib.hid hT
 have HEG := Lib.hid eg
 clear h hf eg hT
 go_enter Tryz.func117, Tryz.ntmps117
 go_wp2_with fail
 refine (cloneNodes_calls w S _ xs H.out hlen).mono ?_
 rintro e w1 ⟨v1, rfl, ho1, hb1⟩
 have H1 := Lib.hid ho1
 have K1 := Lib.hid hb1
 have s1 := hb1.size
 clear ho1 hb1
 go_wp2_with fail
 refine (deleteN_calls w w1 w.heap.size T v1 xs fid fr p HEG.out (fun W x hW => HF.out W x ((Kept.refl w T).below K1.out |>.trans hW)) H1.out (fun k hk hTk => by have h1 := H1.out.1 k hk; have h2 := HT.out k hTk; omega) K1.out s1 hlen).mono ?_
 rintro e w2 ⟨v2, rfl, ho2, _, hb2, _, _⟩
 have H2 := Lib.hid ho2
 have K2 := Lib.hid hb2
 clear ho2 hb2
 go_wp2
 go_ret
 exact RetOwn.mk H2.out K2.out
set_option maxRecDepth 20000 in
set_option maxHeartbeats 4000000 in
theorem withoutE_calls (w : World) (S T : Nat → Prop) (v : Value) (xs : List EdgeD) (fid : Nat) (fr : Array Value) (p : EdgeD → Bool) (eg : Enters Tryz.prog fid)
  (hf : ∀ (W : World) (x : EdgeD), Kept w T W → Calls Tryz.prog fid (#[.agg #[.int .i64 x.id, .int .i64 x.frm, .int .i64 x.to]] ++ fr) W fun e W' => e = .returned (.bool (p x)) ∧ Below W.heap.size W W')
  (h : Row tEdge w S v xs) (hT : ∀ k, T k → k < w.heap.size) (hlen : xs.length ≤ 1000000) : Calls Tryz.prog 112 #[v, .func (.func fid) #[] fr] w (RetOwn tEdge 75 w (xs.filter fun x => !p x)) := by
 obtain ⟨A, c, rfl⟩ := h.slice
 have H := Lib.hid h
 have HF := Lib.hid hf
 have HT := Lib.hid hT
 have HEG := Lib.hid eg
 clear h hf eg hT
 go_enter Tryz.func112, Tryz.ntmps112
 go_wp2_with fail
 refine (cloneEdges_calls w S _ xs H.out hlen).mono ?_
 rintro e w1 ⟨v1, rfl, ho1, hb1⟩
 have H1 := Lib.hid ho1
 have K1 := Lib.hid hb1
 have s1 := hb1.size
 clear ho1 hb1
 go_wp2_with fail
 refine (deleteE_calls w w1 w.heap.size T v1 xs fid fr p HEG.out (fun W x hW => HF.out W x ((Kept.refl w T).below K1.out |>.trans hW)) H1.out (fun k hk hTk => by have h1 := H1.out.1 k hk; have h2 := HT.out k hTk; omega) K1.out s1 hlen).mono ?_
 rintro e w2 ⟨v2, rfl, ho2, _, hb2, _, _⟩
 have H2 := Lib.hid ho2
 have K2 := Lib.hid hb2
 clear ho2 hb2
 go_wp2
 go_ret
 exact RetOwn.mk H2.out K2.out
end Go.Proofs.YtpehmmdbjakkpaaGreat
namespace Go.Proofs.YtpehmmdbjakkpaaGreat
open Go.RowKit Go.Shelf
set_option linter.unusedSimpArgs false
set_option linter.unusedVariables false
structure Box4 (W : World) (b : Nat) (v0 v1 v2 v3 : Value) : Prop where
 c0 : W.cell? ⟨b, 0, none⟩ = some v0
 c1 : W.cell? ⟨b, 1, none⟩ = some v1
 c2 : W.cell? ⟨b, 2, none⟩ = some v2
 c3 : W.cell? ⟨b, 3, none⟩ = some v3
 fz : ∀ o, W.frozen? ⟨b, o, none⟩ = false
theorem Box4.keep {W W' : World} {b : Nat} {v0 v1 v2 v3 : Value} (h : Box4 W b v0 v1 v2 v3) (hb : W'.heap[b]? = W.heap[b]?) : Box4 W' b v0 v1 v2 v3 :=
 ⟨(World.cell?_of_block hb).trans h.c0, (World.cell?_of_block hb).trans h.c1, (World.cell?_of_block hb).trans h.c2, (World.cell?_of_block hb).trans h.c3, fun o => (World.frozen?_of_block hb).trans (h.fz o)⟩
theorem Box4.set0 {W : World} {b : Nat} {v0 v1 v2 v3 : Value} (h : Box4 W b v0 v1 v2 v3) (u : Value) : Box4 (W.setCell ⟨b, 0, none⟩ u) b u v1 v2 v3 :=
 ⟨World.cell?_setCell_same _ _ _ h.c0, by rw [World.cell?_setCell_other _ _ _ _ (by simp), h.c1], by rw [World.cell?_setCell_other _ _ _ _ (by simp), h.c2], by rw [World.cell?_setCell_other _ _ _ _ (by simp), h.c3], fun o => by rw [World.frozen?_setCell]; exact h.fz o⟩
theorem Box4.set1 {W : World} {b : Nat} {v0 v1 v2 v3 : Value} (h : Box4 W b v0 v1 v2 v3) (u : Value) : Box4 (W.setCell ⟨b, 1, none⟩ u) b v0 u v2 v3 :=
 ⟨by rw [World.cell?_setCell_other _ _ _ _ (by simp), h.c0], World.cell?_setCell_same _ _ _ h.c1, by rw [World.cell?_setCell_other _ _ _ _ (by simp), h.c2], by rw [World.cell?_setCell_other _ _ _ _ (by simp), h.c3], fun o => by rw [World.frozen?_setCell]; exact h.fz o⟩
theorem Box4.set2 {W : World} {b : Nat} {v0 v1 v2 v3 : Value} (h : Box4 W b v0 v1 v2 v3) (u : Value) : Box4 (W.setCell ⟨b, 2, none⟩ u) b v0 v1 u v3 :=
 ⟨by rw [World.cell?_setCell_other _ _ _ _ (by simp), h.c0], by rw [World.cell?_setCell_other _ _ _ _ (by simp), h.c1], World.cell?_setCell_same _ _ _ h.c2, by rw [World.cell?_setCell_other _ _ _ _ (by simp), h.c3], fun o => by rw [World.frozen?_setCell]; exact h.fz o⟩
theorem Box4.set3 {W : World} {b : Nat} {v0 v1 v2 v3 : Value} (h : Box4 W b v0 v1 v2 v3) (u : Value) : Box4 (W.setCell ⟨b, 3, none⟩ u) b v0 v1 v2 u :=
 ⟨by rw [World.cell?_setCell_other _ _ _ _ (by simp), h.c0], by rw [World.cell?_setCell_other _ _ _ _ (by simp), h.c1], by rw [World.cell?_setCell_other _ _ _ _ (by simp), h.c2], World.cell?_setCell_same _ _ _ h.c3, fun o => by rw [World.frozen?_setCell]; exact h.fz o⟩
theorem Box4.other {W : World} {b b' : Nat} {v0 v1 v2 v3 : Value} (h : Box4 W b v0 v1 v2 v3) (hb : b ≠ b') (o : Nat) (u : Value) : Box4 (W.setCell ⟨b', o, none⟩ u) b v0 v1 v2 v3 := h.keep (Below.heap_setCell W ⟨b', o, none⟩ u b hb)
/-- All four are written. -/
def set4 (W : World) (b : Nat) (v0 v1 v2 v3 : Value) : World := (((W.setCell ⟨b, 0, none⟩ v0).setCell ⟨b, 1, none⟩ v1).setCell ⟨b, 2, none⟩ v2).setCell ⟨b, 3, none⟩ v3
theorem Box4.set {W : World} {b : Nat} {u0 u1 u2 u3 : Value} (h : Box4 W b u0 u1 u2 u3) (v0 v1 v2 v3 : Value) : Box4 (set4 W b v0 v1 v2 v3) b v0 v1 v2 v3 := (((h.set0 v0).set1 v1).set2 v2).set3 v3
theorem Box4.other4 {W : World} {b b' : Nat} {u0 u1 u2 u3 : Value} (h : Box4 W b u0 u1 u2 u3) (hb : b ≠ b') (v0 v1 v2 v3 : Value) : Box4 (set4 W b' v0 v1 v2 v3) b u0 u1 u2 u3 := (((h.other hb 0 v0).other hb 1 v1).other hb 2 v2).other hb 3 v3
theorem set4_heap (W : World) (b : Nat) (v0 v1 v2 v3 : Value) (k : Nat) (hk : k ≠ b) : (set4 W b v0 v1 v2 v3).heap[k]? = W.heap[k]? := by
 unfold set4
 rw [Below.heap_setCell _ ⟨b, 3, none⟩ _ k hk, Below.heap_setCell _ ⟨b, 2, none⟩ _ k hk, Below.heap_setCell _ ⟨b, 1, none⟩ _ k hk, Below.heap_setCell _ ⟨b, 0, none⟩ _ k hk]
theorem set4_size (W : World) (b : Nat) (v0 v1 v2 v3 : Value) : (set4 W b v0 v1 v2 v3).heap.size = W.heap.size := by simp [set4]
theorem set4_below {B : Nat} {w0 W : World} {b : Nat} (h : Below B w0 W) (hb : B ≤ b) (v0 v1 v2 v3 : Value) : Below B w0 (set4 W b v0 v1 v2 v3) := (((h.setCell hb v0).setCell hb v1).setCell hb v2).setCell hb v3
theorem Box4.made (W : World) (e : TypeId) (v0 v1 v2 v3 : Value) : Box4 (W.alloc (.cells #[v0, v1, v2, v3] e)) W.heap.size v0 v1 v2 v3 := ⟨by simp [go_sem], by simp [go_sem], by simp [go_sem], by simp [go_sem], fun o => by simp [go_sem]⟩
/-- What stays of a graph of the call's own when only its nodes' block is written. -/
theorem OwnG.restN {w w' : World} {B : Nat} {g : GraphD} {vn ve : Value} {nvs : List NV} (h : OwnG w B g vn ve nvs) (hs : ∀ k, B ≤ k → vn.ownBlock ≠ some k → k < w.heap.size → w'.heap[k]? = w.heap[k]?) : NVs w' (fun k => B ≤ k) nvs g.nodes ∧ Own tEdge 75 w' (fun k => B ≤ k) ve g.edges := by
 refine ⟨⟨h.len, fun j v x hv hx => ⟨(h.each j v x hv hx).1, ?_⟩⟩, h.edges.keepFlat fun k hk => hs k (h.edges.1 k hk) (fun e => h.ne k e hk) (h.edges.lt k hk)⟩
 have ho := (h.each j v x hv hx).2
 exact (ho.keepFlat fun k hk => hs k (ho.1 k hk) (fun e => (h.np j v k hv hk).1 e) (ho.lt k hk)).row
/-- .. when only its edges' block is written. -/
theorem OwnG.restE {w w' : World} {B : Nat} {g : GraphD} {vn ve : Value} {nvs : List NV} (h : OwnG w B g vn ve nvs) (hs : ∀ k, B ≤ k → ve.ownBlock ≠ some k → k < w.heap.size → w'.heap[k]? = w.heap[k]?) : NVs w' (fun k => B ≤ k) nvs g.nodes ∧ Own tNV 72 w' (fun k => B ≤ k) vn nvs := by
 refine ⟨⟨h.len, fun j v x hv hx => ⟨(h.each j v x hv hx).1, ?_⟩⟩, h.nodes.keepFlat fun k hk => hs k (h.nodes.1 k hk) (fun e => h.ne k hk e) (h.nodes.lt k hk)⟩
 have ho := (h.each j v x hv hx).2
 exact (ho.keepFlat fun k hk => hs k (ho.1 k hk) (fun e => (h.np j v k hv hk).2 e) (ho.lt k hk)).row
end Go.Proofs.YtpehmmdbjakkpaaGreat

