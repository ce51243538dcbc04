/- What comes of a graph that may be, may be: plain data. -/
import Derived.Test.YtpehmmdbjakkpaaGreatCheckM
import Derived.Test.YtpehmmdbjakkpaaGreatPropLaw
import Derived.Test.YtpehmmdbjakkpaaGreatAddM
import Derived.Test.YtpehmmdbjakkpaaGreatGetM
namespace Go.Proofs.YtpehmmdbjakkpaaGreat
open Go.RowKit Go.Shelf
set_option linter.unusedSimpArgs false
set_option linter.unusedVariables false
/-- What stands of a graph that may be, but for how many records there are. -/
structure WF (g : GraphD) : Prop where
 asc : Asc g.nodes
 ids : ∀ x ∈ g.nodes, 1 ≤ x.id ∧ x.id < g.nn
 rs : ∀ x ∈ g.nodes, Rises x.ps x.ps.length
 asce : (g.edges.map EdgeD.id).Pairwise (· < ·)
 eids : ∀ x ∈ g.edges, 1 ≤ x.id ∧ x.id < g.ne
 ends : ∀ x ∈ g.edges, x.frm ∈ g.nodes.map NodeD.id ∧ x.to ∈ g.nodes.map NodeD.id
theorem lost_iff {g : GraphD} {x : EdgeD} : lostE g x = false ↔ x.frm ∈ g.nodes.map NodeD.id ∧ x.to ∈ g.nodes.map NodeD.id := by
 unfold lostE
 rw [← at_nonneg, ← at_nonneg]
 simp only [Bool.or_eq_false_iff, decide_eq_false_iff_not]
 omega
theorem wf_iff {g : GraphD} : WF g ↔ NodesOk g g.nodes.length ∧ EdgesOk g g.edges.length := by
 constructor
 ·
  intro h
  refine ⟨nodesOk_iff.2 ⟨fun i p q hp hq => h.asc.by i (i + 1) p q (by omega) hp hq, h.ids, h.rs⟩, edgesOk_iff.2 ⟨fun i p q _ hp hq => ?_, h.eids, fun x hx => lost_iff.2 (h.ends x hx)⟩⟩
  have h1 := h.asce
  rw [List.pairwise_map, List.pairwise_iff_getElem] at h1
  obtain ⟨l1, rfl⟩ := List.getElem?_eq_some_iff.1 hp
  obtain ⟨l2, rfl⟩ := List.getElem?_eq_some_iff.1 hq
  exact h1 i (i + 1) l1 l2 (by omega)
 ·
  rintro ⟨h1, h2⟩
  have n := nodesOk_iff.1 h1
  have e := edgesOk_iff.1 h2
  refine ⟨asc_of (ascN h1), n.2.1, n.2.2, ?_, e.2.1, fun x hx => lost_iff.1 (e.2.2 x hx)⟩
  have h3 := ascE h2
  rw [List.pairwise_map, List.pairwise_iff_getElem]
  intro i j hi hj hij
  exact h3 i j _ _ hij (List.getElem?_eq_getElem hi) (List.getElem?_eq_getElem hj)
/-- What comes of g: as many numbers as before, or more, and few enough. -/
structure Good (c : CfgD) (g z : GraphD) : Prop where
 wf : WF z
 ln : z.nodes.length ≤ 101
 le : z.edges.length ≤ 101
 lp : ∀ x ∈ z.nodes, x.ps.length ≤ 200
 nn : g.nn ≤ z.nn ∧ z.nn ≤ c.ids + 1
 ne : g.ne ≤ z.ne ∧ z.ne ≤ c.eids + 1
section
variable {c : CfgD} {g : GraphD}
structure Start (c : CfgD) (g : GraphD) : Prop where
 wf : WF g
 ln : g.nodes.length ≤ 100
 le : g.edges.length ≤ 100
 lp : ∀ x ∈ g.nodes, x.ps.length ≤ 100
 nn : 1 ≤ g.nn ∧ g.nn ≤ c.ids + 1
 ne : 1 ≤ g.ne ∧ g.ne ≤ c.eids + 1
theorem good_add (h : Start c g) (h0 : (addOf c g).2.2 = 0) : Good c g (addOf c g).1 := by
 unfold addOf at h0 ⊢
 split at h0
 ·
  simp at h0
 ·
  rename_i hc
  rw [if_neg hc]
  refine ⟨⟨?_, fun x hx => ?_, fun x hx => ?_, h.wf.asce, h.wf.eids, fun x hx => ?_⟩, ?_, by have := h.le; simp only; omega, fun x hx => ?_, by have := h.nn; simp only; omega, by have := h.ne; simp only; omega⟩
  ·
   have h1 := h.wf.asc
   unfold Asc at h1 ⊢
   simp only [List.map_append, List.map_cons, List.map_nil]
   rw [List.pairwise_append]
   refine ⟨h1, by simp, fun a ha b hb => ?_⟩
   obtain ⟨x, hx, rfl⟩ := List.mem_map.1 ha
   simp at hb
   subst hb
   exact (h.wf.ids x hx).2
  ·
   have hn := h.nn.1
   rcases List.mem_append.1 hx with hx | hx
   ·
    have := h.wf.ids x hx; simp only; omega
   ·
    simp at hx; subst hx; simp only; omega
  ·
   rcases List.mem_append.1 hx with hx | hx
   ·
    exact h.wf.rs x hx
   ·
    simp at hx; subst hx; intro i p q hi; simp at hi
  ·
   obtain ⟨h1, h2⟩ := h.wf.ends x hx
   simp only [List.map_append]
   exact ⟨List.mem_append.2 (.inl h1), List.mem_append.2 (.inl h2)⟩
  ·
   have := h.ln; simp; omega
  ·
   rcases List.mem_append.1 hx with hx | hx
   ·
    have := h.lp x hx; omega
   ·
    simp at hx; subst hx; simp
theorem good_link (h : Start c g) {a b : Int} (h0 : (linkOf c g a b).2.2 = 0) : Good c g (linkOf c g a b).1 := by
 unfold linkOf at h0 ⊢
 split at h0
 ·
  simp at h0
 ·
  rename_i hab
  rw [if_neg hab]
  split at h0
  ·
   simp at h0
  ·
   rename_i hc
   rw [if_neg hc]
   refine ⟨⟨h.wf.asc, h.wf.ids, h.wf.rs, ?_, fun x hx => ?_, fun x hx => ?_⟩, by have := h.ln; simp only; omega, ?_, fun x hx => by have := h.lp x hx; omega, by have := h.nn; simp only; omega, by have := h.ne; simp only; omega⟩
   ·
    have h1 := h.wf.asce
    simp only [List.map_append, List.map_cons, List.map_nil]
    rw [List.pairwise_append]
    refine ⟨h1, by simp, fun a ha b hb => ?_⟩
    obtain ⟨x, hx, rfl⟩ := List.mem_map.1 ha
    simp at hb
    subst hb
    exact (h.wf.eids x hx).2
   ·
    have hn := h.ne.1
    rcases List.mem_append.1 hx with hx | hx
    ·
     have := h.wf.eids x hx; simp only; omega
    ·
     simp at hx; subst hx; simp only; omega
   ·
    rcases List.mem_append.1 hx with hx | hx
    ·
     exact h.wf.ends x hx
    ·
     simp at hx; subst hx
     have ha : a ∈ g.nodes.map NodeD.id := at_nonneg.1 (by omega)
     have hb : b ∈ g.nodes.map NodeD.id := at_nonneg.1 (by omega)
     exact ⟨ha, hb⟩
   ·
    have := h.le; simp; omega
theorem good_cut (h : Start c g) {a : Int} (h0 : (cutOf g a).2 = 0) : Good c g (cutOf g a).1 := by
 unfold cutOf at h0 ⊢
 split at h0
 ·
  simp at h0
 ·
  rename_i hc
  rw [if_neg hc]
  have hl := List.length_filter_le (fun x : EdgeD => !(x.id == a)) g.edges
  refine ⟨⟨h.wf.asc, h.wf.ids, h.wf.rs, ?_, fun x hx => h.wf.eids x (List.mem_filter.1 hx).1, fun x hx => h.wf.ends x (List.mem_filter.1 hx).1⟩, by have := h.ln; simp only; omega, by have := h.le; simp only; omega, fun x hx => by have := h.lp x hx; omega, by have := h.nn; simp only; omega, by have := h.ne; simp only; omega⟩
  have h1 := h.wf.asce
  rw [List.pairwise_map] at h1 ⊢
  exact h1.filter _
theorem Start.getLen (h : Start c g) (n : Int) : (getOf g n).1.length ≤ 100 := by
 by_cases ha : atOf g.nodes n < 0
 ·
  rw [getOf_none ha]; simp
 ·
  obtain ⟨i, x, hi, hx, _⟩ := atOf_at ha
  rw [getOf_some hi hx]
  exact h.lp x (List.mem_of_getElem? hx)
theorem Start.getRises (h : Start c g) (n : Int) : Rises (getOf g n).1 (getOf g n).1.length := by
 by_cases ha : atOf g.nodes n < 0
 ·
  rw [getOf_none ha]; intro i p q hi; simp at hi
 ·
  obtain ⟨i, x, hi, hx, _⟩ := atOf_at ha
  rw [getOf_some hi hx]
  exact h.wf.rs x (List.mem_of_getElem? hx)
theorem setN_cases {xs : List NodeD} {n : Int} {ps : List P2} {x : NodeD} (hx : x ∈ setN xs n ps) : x ∈ xs ∨ x = ⟨n, ps⟩ := by
 unfold setN at hx
 exact List.mem_or_eq_of_mem_set hx
theorem good_setN (h : Start c g) {n : Int} {ps : List P2} (hn : 0 ≤ atOf g.nodes n) (hr : Rises ps ps.length) (hl : ps.length ≤ 200) : Good c g ⟨setN g.nodes n ps, g.edges, g.nn, g.ne⟩ := by
 refine ⟨⟨h.wf.asc.setN hn, fun x hx => ?_, fun x hx => ?_, h.wf.asce, h.wf.eids, fun x hx => ?_⟩, by have := h.ln; simp [setN]; omega, by have := h.le; simp only; omega, fun x hx => ?_, by have := h.nn; simp only; omega, by have := h.ne; simp only; omega⟩
 ·
  rcases setN_cases hx with hx | rfl
  ·
   exact h.wf.ids x hx
  ·
   obtain ⟨y, hy, he⟩ := at_mem hn
   have := h.wf.ids y hy
   simp only
   omega
 ·
  rcases setN_cases hx with hx | rfl
  ·
   exact h.wf.rs x hx
  ·
   exact hr
 ·
  simp only
  rw [setN_ids g.nodes n ps hn]
  exact h.wf.ends x hx
 ·
  rcases setN_cases hx with hx | rfl
  ·
   have := h.lp x hx; omega
  ·
   exact hl
theorem good_set (h : Start c g) {n k v : Int} (h0 : (setOf g n k v).2 = 0) : Good c g (setOf g n k v).1 := by
 unfold setOf at h0 ⊢
 split at h0
 ·
  simp at h0
 ·
  rename_i hc
  rw [if_neg hc]
  exact good_setN h (by omega) (putP_rises (h.getRises n)) (by have := putP_len (getOf g n).1 k v; have := h.getLen n; omega)
theorem delP_rises {ps : List P2} {k : Int} (h : Rises ps ps.length) : Rises (delP ps k) (delP ps k).length := by
 rw [rises_iff] at h ⊢
 exact h.filter _
theorem good_del (h : Start c g) {n k : Int} (h0 : (delOf g n k).2 = 0) : Good c g (delOf g n k).1 := by
 unfold delOf at h0 ⊢
 split at h0
 ·
  rename_i hh
  rw [if_pos hh]
  have hn : 0 ≤ atOf g.nodes n := by
   rcases Int.lt_or_le (atOf g.nodes n) 0 with h1 | h1
   ·
    rw [getOf_none h1] at hh; simp [hasP] at hh
   ·
    exact h1
  exact good_setN h hn (delP_rises (h.getRises n)) (by have := List.length_filter_le (fun p : P2 => !(p.x == k)) (getOf g n).1; have := h.getLen n; unfold delP; omega)
 ·
  simp at h0
theorem good_drop (h : Start c g) {n : Int} (h0 : (dropOf g n).2 = 0) : Good c g (dropOf g n).1 := by
 unfold dropOf at h0 ⊢
 split at h0
 ·
  simp at h0
 ·
  rename_i hc
  rw [if_neg hc]
  have hl1 := List.length_filter_le (fun x : NodeD => !(x.id == n)) g.nodes
  have hl2 := List.length_filter_le (fun x : EdgeD => !(x.frm == n || x.to == n)) g.edges
  refine ⟨⟨h.wf.asc.filter _, fun x hx => h.wf.ids x (List.mem_filter.1 hx).1, fun x hx => h.wf.rs x (List.mem_filter.1 hx).1, ?_, fun x hx => h.wf.eids x (List.mem_filter.1 hx).1, fun x hx => ?_⟩, by have := h.ln; simp only; omega, by have := h.le; simp only; omega, fun x hx => by have := h.lp x (List.mem_filter.1 hx).1; omega, by have := h.nn; simp only; omega, by have := h.ne; simp only; omega⟩
  ·
   have h1 := h.wf.asce
   simp only
   rw [List.pairwise_map] at h1 ⊢
   exact h1.filter _
  ·
   obtain ⟨hx1, hx2⟩ := List.mem_filter.1 hx
   obtain ⟨h1, h2⟩ := h.wf.ends x hx1
   simp only [Bool.not_eq_true', Bool.or_eq_false_iff, beq_eq_false_iff_ne, ne_eq] at hx2
   obtain ⟨y, hy, e1⟩ := List.mem_map.1 h1
   obtain ⟨z, hz, e2⟩ := List.mem_map.1 h2
   exact ⟨List.mem_map.2 ⟨y, List.mem_filter.2 ⟨hy, by simp; omega⟩, e1⟩, List.mem_map.2 ⟨z, List.mem_filter.2 ⟨hz, by simp; omega⟩, e2⟩⟩
theorem good_fuse (h : Start c g) {a b : Int} (h0 : (fuseOf g a b).2 = 0) : Good c g (fuseOf g a b).1 := by
 unfold fuseOf at h0 ⊢
 split at h0
 ·
  simp at h0
 ·
  rename_i hab
  rw [if_neg hab]
  split at h0
  ·
   simp at h0
  ·
   rename_i hn
   rw [if_neg hn]
   have ha : 0 ≤ atOf g.nodes a := by omega
   have hl1 := List.length_filter_le (fun x : NodeD => !(x.id == b)) (setN g.nodes a (fuseP (getOf g a).1 (getOf g b).1))
   have hl2 : (setN g.nodes a (fuseP (getOf g a).1 (getOf g b).1)).length = g.nodes.length := by simp [setN]
   have G := good_setN (c := c) h ha (fuseP_rises (getOf g b).1 _ (h.getRises a)) (by have := fuseP_len (getOf g b).1 (getOf g a).1; have := h.getLen a; have := h.getLen b; omega)
   refine ⟨⟨G.wf.asc.filter _, fun x hx => G.wf.ids x (List.mem_filter.1 hx).1, fun x hx => G.wf.rs x (List.mem_filter.1 hx).1, ?_, fun x hx => ?_, fun x hx => ?_⟩, by have := h.ln; simp only; omega, by have := h.le; simp only [List.length_map]; omega, fun x hx => G.lp x (List.mem_filter.1 hx).1, by have := h.nn; simp only; omega, by have := h.ne; simp only; omega⟩
   ·
    have h1 := h.wf.asce
    simp only [List.map_map]
    exact h1
   ·
    obtain ⟨y, hy, rfl⟩ := List.mem_map.1 hx
    exact h.wf.eids y hy
   ·
    obtain ⟨y, hy, rfl⟩ := List.mem_map.1 hx
    obtain ⟨h1, h2⟩ := h.wf.ends y hy
    have key : ∀ n, n ∈ g.nodes.map NodeD.id → (if n = b then a else n) ∈ (((setN g.nodes a (fuseP (getOf g a).1 (getOf g b).1)).filter fun x => !(x.id == b)).map NodeD.id) := by
     intro n hn2
     have h3 : (if n = b then a else n) ∈ (setN g.nodes a (fuseP (getOf g a).1 (getOf g b).1)).map NodeD.id := by
      rw [setN_ids _ _ _ ha]
      split
      ·
       exact at_nonneg.1 ha
      ·
       exact hn2
     have h4 : (if n = b then a else n) ≠ b := by
      split
      ·
       exact hab
      ·
       assumption
     obtain ⟨z, hz, e⟩ := List.mem_map.1 h3
     exact List.mem_map.2 ⟨z, List.mem_filter.2 ⟨hz, by simp; rw [e]; exact h4⟩, e⟩
    exact ⟨key _ h1, key _ h2⟩
end
theorem MayG.start {c : CfgD} {g : GraphD} (h : MayG c g) (hf : g.few) : Start c g := ⟨wf_iff.2 ⟨h.nodes, h.edges⟩, hf.1, hf.2.1, hf.2.2, ⟨h.head.nn.1, h.head.nn.2⟩, ⟨h.head.ne.1, h.head.ne.2⟩⟩
/-- With room enough it may be. -/
theorem Good.may {c : CfgD} {g z : GraphD} (h : Good c g z) (hs : Start c g) (hc : c.ok) (h1 : z.nodes.length ≤ 64) (h2 : z.edges.length ≤ 64) (h3 : psum z.nodes ≤ 64) : MayG ⟨64, 64, 64, c.ids, c.eids⟩ z := by
 have w := wf_iff.1 h.wf
 have hn := h.nn
 have he := h.ne
 have h5 := hs.nn
 have h6 := hs.ne
 exact ⟨⟨⟨by simp, by simp, by simp, hc.2.2.2.1, hc.2.2.2.2⟩, ⟨by omega, hn.2⟩, ⟨by omega, he.2⟩, by simp only; omega, by simp only; omega⟩, w.1, w.2, by simp only; omega⟩


end Go.Proofs.YtpehmmdbjakkpaaGreat
