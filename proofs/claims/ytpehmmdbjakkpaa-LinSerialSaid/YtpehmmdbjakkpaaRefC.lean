/- The reference's put. The reference's Set. -/
import Derived.Test.YtpehmmdbjakkpaaRefB
import Derived.Test.YtpehmmdbjakkpaaOwnSet
namespace Go.Proofs.Ytpehmmdbjakkpaa
open Go.RowKit Go.Shelf
set_option linter.unusedSimpArgs false
set_option linter.unusedVariables false
end Go.Proofs.Ytpehmmdbjakkpaa
namespace Go.Proofs.Ytpehmmdbjakkpaa
open Go.RowKit Go.Shelf
set_option linter.unusedSimpArgs false
set_option linter.unusedVariables false
theorem RefG.putPairs {w : World} {B : Nat} {g : GraphD} {gN n c : Nat} {ve : Value} {nvs : List NV} (h : RefG w B g (.slice (some ⟨gN, 0, none⟩) n c) ve nvs) {i : Nat} {v : NV} {x : NodeD} (hv : nvs[i]? = some v) (hx : g.nodes[i]? = some x)
    {A' : Option Addr} {n' c' : Nat} {ys : List P2} (hr : Row tP w (fun k => B ≤ k ∧ k ≠ gN ∧ ve.ownBlock ≠ some k) (.slice A' n' c') ys) :
    RefG (w.setCell ⟨gN, i * 2 + 1, none⟩ (.slice A' n' c')) B ⟨g.nodes.set i ⟨x.id, ys⟩, g.edges, g.nn, g.ne⟩ (.slice (some ⟨gN, 0, none⟩) n c) ve (nvs.set i ⟨v.id, A', n', c'⟩) := by
  have hs : ∀ k, k ≠ gN → (w.setCell ⟨gN, i * 2 + 1, none⟩ (.slice A' n' c')).heap[k]? = w.heap[k]? := fun k hk => Below.heap_setCell w ⟨gN, i * 2 + 1, none⟩ _ k hk
  have hp : NVs (w.setCell ⟨gN, i * 2 + 1, none⟩ (.slice A' n' c')) (fun j => B ≤ j ∧ (Value.slice (some ⟨gN, 0, none⟩) n c).ownBlock ≠ some j ∧ ve.ownBlock ≠ some j) nvs g.nodes := h.pairs.move fun k hk _ => hs k (fun e => hk.2.1 (by rw [e]; rfl))
  refine ⟨h.nodes.setFlat (p := i) (i := 1) (y := v) (y' := ⟨v.id, A', n', c'⟩) hv (by decide) rfl, h.edges.keepFlat fun k hk => hs k (fun e => h.ne k hk (by rw [e]; rfl)), ⟨by rw [List.length_set, List.length_set]; exact h.pairs.len, ?_⟩, h.ne⟩
  intro j u y hu hy
  rcases set_cases hu with ⟨rfl, rfl⟩ | ⟨hne, hu⟩
  · rcases set_cases hy with ⟨_, rfl⟩ | ⟨hne, _⟩
    · refine ⟨(h.pairs.each i v x hv hx).1, (hr.move fun k hk _ => hs k hk.2.1).mono fun k hk _ => ⟨hk.1, fun e => hk.2.1 ?_, hk.2.2⟩⟩
      have : some gN = some k := e
      injection this with this
      exact this.symm
    · exact absurd rfl hne
  · rcases set_cases hy with ⟨e, _⟩ | ⟨_, hy⟩
    · exact absurd e hne
    · exact hp.each j u y hu hy
theorem RefG.zero (w : World) (B : Nat) (n m : Int) : RefG w B ⟨[], [], n, m⟩ (.slice none 0 0) (.slice none 0 0) [] := ⟨Own.nil _ _ _ _, Own.nil _ _ _ _, NVs.nil _ _, fun j h => by simp [Value.ownBlock] at h⟩
end Go.Proofs.Ytpehmmdbjakkpaa

