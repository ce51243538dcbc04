/- A node's properties are others: in a graph of the call's own. -/
import Derived.Test.YtpehmmdbjakkpaaGreatInsertP
import Derived.Test.YtpehmmdbjakkpaaGreatPropLaw
namespace Go.Proofs.YtpehmmdbjakkpaaGreat
open Go.RowKit Go.Shelf
set_option linter.unusedSimpArgs false
set_option linter.unusedVariables false
theorem set_cases {α : Type} {l : List α} {i j : Nat} {u y : α} (h : (l.set i u)[j]? = some y) : (i = j ∧ u = y) ∨ (i ≠ j ∧ l[j]? = some y) := by
 rw [List.getElem?_set] at h
 split at h
 ·
  split at h
  ·
   rename_i e _
   injection h with h
   exact .inl ⟨e, h⟩
  ·
   cases h
 ·
  rename_i e
  exact .inr ⟨e, h⟩
/-- The pairs of node i are ys now, in their old block or in a new one; the nodes' row says so. -/
theorem OwnG.putPairs {w w' : World} {B : Nat} {g : GraphD} {gN n c : Nat} {ve : Value} {nvs : List NV} (h : OwnG w B g (.slice (some ⟨gN, 0, none⟩) n c) ve nvs) {i : Nat} {v : NV} {x : NodeD} (hv : nvs[i]? = some v) (hx : g.nodes[i]? = some x)
  {A' : Option Addr} {n' c' : Nat} {ys : List P2} (ho : Own tP 92 w' (fun k => B ≤ k) (.slice A' n' c') ys) (hg : w.grownBy w' (Value.slice v.A v.n v.c).ownBlock)
  (hor : (Value.slice A' n' c').ownBlock = (Value.slice v.A v.n v.c).ownBlock ∨ ∃ k, (Value.slice A' n' c').ownBlock = some k ∧ w.heap.size ≤ k) :
  OwnG (w'.setCell ⟨gN, i * 2 + 1, none⟩ (.slice A' n' c')) B ⟨g.nodes.set i ⟨x.id, ys⟩, g.edges, g.nn, g.ne⟩ (.slice (some ⟨gN, 0, none⟩) n c) ve (nvs.set i ⟨v.id, A', n', c'⟩) := by
 have hin : i < nvs.length := (List.getElem?_eq_some_iff.1 hv).1
 have hgl : gN < w.heap.size := h.nodes.lt gN rfl
 have hbN : (Value.slice (some ⟨gN, 0, none⟩) n c).ownBlock = some gN := rfl
 have hpN := h.np i v
 -- a block that is not that of the old pairs, nor the nodes', is as it was
 have keep : ∀ k, k < w.heap.size → k ≠ gN → (Value.slice v.A v.n v.c).ownBlock ≠ some k → (w'.setCell ⟨gN, i * 2 + 1, none⟩ (.slice A' n' c')).heap[k]? = w.heap[k]? := fun k hk h1 h2 => by
  rw [Below.heap_setCell w' ⟨gN, i * 2 + 1, none⟩ _ k h1]
  exact hg.block k hk (fun e => h2 e.symm)
 have hNg : (Value.slice v.A v.n v.c).ownBlock ≠ some gN := fun e => (hpN gN hv e).1 rfl
 have newne : ∀ k, k < w.heap.size → (Value.slice v.A v.n v.c).ownBlock ≠ some k → (Value.slice A' n' c').ownBlock ≠ some k := fun k hk h1 e => by
  rcases hor with h2 | ⟨k', h2, h3⟩
  ·
   exact h1 (h2 ▸ e)
  ·
   have := Option.some.inj (h2.symm.trans e)
   omega
 have hn' : Own tNV 72 w' (fun k => B ≤ k) (.slice (some ⟨gN, 0, none⟩) n c) nvs := h.nodes.keepFlat fun k hk => by
  rw [hbN] at hk
  injection hk with hk
  subst hk
  exact hg.block gN hgl (fun e => hNg e.symm)
 have each' : ∀ (j : Nat) (u : NV) (y : NodeD), j ≠ i → nvs[j]? = some u → g.nodes[j]? = some y → (Value.slice u.A u.n u.c).ownBlock ≠ none → ∀ k, (Value.slice u.A u.n u.c).ownBlock = some k → k < w.heap.size ∧ k ≠ gN ∧ (Value.slice v.A v.n v.c).ownBlock ≠ some k := by
  intro j u y hji hu hy _ k hk
  refine ⟨(h.each j u y hu hy).2.lt k hk, fun e => (h.np j u k hu hk).1 (by rw [e]; rfl), fun e => ?_⟩
  rcases Nat.lt_or_ge j i with h1 | h1
  ·
   exact h.pp j i u v k h1 hu hv hk e
  ·
   exact h.pp i j v u k (by omega) hv hu e hk
 have hlt : ∀ {j : Nat} {u : NV}, nvs[j]? = some u → ∃ y, g.nodes[j]? = some y := fun {j u} hu => getElem?_of_lt (by rw [← h.len]; exact (List.getElem?_eq_some_iff.1 hu).1)
 refine ⟨hn'.setFlat (p := i) (i := 1) (y := v) (y' := ⟨v.id, A', n', c'⟩) hv (by decide) rfl, ?_, by rw [List.length_set, List.length_set]; exact h.len, ?_, h.ne, ?_, ?_⟩
 ·
  refine h.edges.keepFlat fun k hk => keep k (h.edges.lt k hk) (fun e => h.ne gN rfl (e ▸ hk)) (fun e => (hpN k hv e).2 hk)
 ·
  intro j u y hu hy
  rcases set_cases hu with ⟨rfl, rfl⟩ | ⟨hne, hu⟩
  ·
   rcases set_cases hy with ⟨_, rfl⟩ | ⟨hne, _⟩
   ·
    refine ⟨(h.each i v x hv hx).1, ho.keepFlat fun k hk => ?_⟩
    rw [Below.heap_setCell w' ⟨gN, i * 2 + 1, none⟩ _ k (fun e => newne gN hgl hNg ((show k = gN from e) ▸ hk))]
   ·
    exact absurd rfl hne
  ·
   rcases set_cases hy with ⟨e, _⟩ | ⟨_, hy⟩
   ·
    exact absurd e hne
   ·
    refine ⟨(h.each j u y hu hy).1, (h.each j u y hu hy).2.keepFlat fun k hk => ?_⟩
    obtain ⟨h1, h2, h3⟩ := each' j u y (fun e => hne e.symm) hu hy (by rw [hk]; simp) k hk
    exact keep k h1 h2 h3
 ·
  intro j u k hu hk
  rcases set_cases hu with ⟨rfl, rfl⟩ | ⟨hne, hu⟩
  ·
   exact ⟨fun e => by rw [hbN] at e; injection e with e; exact newne gN hgl hNg (e ▸ hk), fun e => newne k (h.edges.lt k e) (fun e2 => (hpN k hv e2).2 e) hk⟩
  ·
   exact h.np j u k hu hk
 ·
  intro a b u z k hab hu hz hk
  rcases set_cases hu with ⟨rfl, rfl⟩ | ⟨hne, hu⟩
  ·
   rcases set_cases hz with ⟨e, _⟩ | ⟨hne, hz⟩
   ·
    omega
   ·
    intro e
    obtain ⟨y, hy⟩ := hlt hz
    obtain ⟨h1, h2, h3⟩ := each' b z y (fun e => hne e.symm) hz hy (by rw [e]; simp) k e
    exact newne k h1 h3 hk
  ·
   rcases set_cases hz with ⟨rfl, rfl⟩ | ⟨hne2, hz⟩
   ·
    intro e
    obtain ⟨y, hy⟩ := hlt hu
    obtain ⟨h1, h2, h3⟩ := each' a u y (fun e => hne e.symm) hu hy (by rw [hk]; simp) k hk
    exact newne k h1 h3 e
   ·
    exact h.pp a b u z k hab hu hz hk
/-- The pairs of node i are ys now, in their old block: nothing else is written. -/
theorem OwnG.inPairs {w w' : World} {B : Nat} {g : GraphD} {vn ve : Value} {nvs : List NV} (h : OwnG w B g vn ve nvs) {i : Nat} {v : NV} {x : NodeD} (hv : nvs[i]? = some v) (hx : g.nodes[i]? = some x)
  {ys : List P2} (ho : Own tP 92 w' (fun k => B ≤ k) (.slice v.A v.n v.c) ys) (hg : ∀ k, k < w.heap.size → (Value.slice v.A v.n v.c).ownBlock ≠ some k → w'.heap[k]? = w.heap[k]?) :
  OwnG w' B ⟨g.nodes.set i ⟨x.id, ys⟩, g.edges, g.nn, g.ne⟩ vn ve nvs := by
 have hpN := h.np i v
 refine ⟨h.nodes.keepFlat fun k hk => hg k (h.nodes.lt k hk) (fun e => (hpN k hv e).1 hk), h.edges.keepFlat fun k hk => hg k (h.edges.lt k hk) (fun e => (hpN k hv e).2 hk), by rw [List.length_set]; exact h.len, ?_, h.ne, h.np, h.pp⟩
 intro j u y hu hy
 rcases set_cases hy with ⟨rfl, rfl⟩ | ⟨hne, hy⟩
 ·
  rw [hv] at hu
  injection hu with hu
  subst hu
  exact ⟨(h.each i v x hv hx).1, ho⟩
 ·
  refine ⟨(h.each j u y hu hy).1, (h.each j u y hu hy).2.keepFlat fun k hk => hg k ((h.each j u y hu hy).2.lt k hk) fun e => ?_⟩
  rcases Nat.lt_or_ge j i with h1 | h1
  ·
   exact h.pp j i u v k h1 hu hv hk e
  ·
   exact h.pp i j v u k (by omega) hv hu e hk
theorem setN_at {xs : List NodeD} {n : Int} {i : Nat} {x : NodeD} (hi : atOf xs n = (i : Int)) (hx : xs[i]? = some x) (hid : x.id = n) (ps : List P2) : setN xs n ps = xs.set i ⟨x.id, ps⟩ := by
 unfold setN
 rw [hi, Int.toNat_natCast, hid]

end Go.Proofs.YtpehmmdbjakkpaaGreat
