/- What the call owns: set, read, held. -/
import Derived.Test.YtpehmmdbjakkpaaGTy
import Derived.Test.YtpehmmdbjakkpaaLib4
namespace Go.Proofs.Ytpehmmdbjakkpaa
open Go.RowKit
set_option linter.unusedSimpArgs false
set_option linter.unusedVariables false
theorem bcell {W w1 : World} (hb : Below W.heap.size W w1) : (∀ b o, b < W.heap.size → w1.cell? ⟨b, o, none⟩ = W.cell? ⟨b, o, none⟩) ∧ (∀ b o, b < W.heap.size → w1.frozen? ⟨b, o, none⟩ = W.frozen? ⟨b, o, none⟩) :=
  ⟨fun b o h => hb.cell (p := ⟨b, o, none⟩) h, fun b o h => hb.frozen (p := ⟨b, o, none⟩) h⟩
theorem drop_take_set {α : Type} {l : List α} {s j m : Nat} {u : α} : ((l.set j u).drop m).take s = if m ≤ j ∧ j < m + s then ((l.drop m).take s).set (j - m) u else (l.drop m).take s := by
  apply List.ext_getElem?
  intro i
  split
  · rename_i h
    rw [List.getElem?_take, List.getElem?_drop, List.getElem?_set, List.getElem?_set, List.getElem?_take, List.getElem?_drop]
    simp only [List.length_take, List.length_drop]
    repeat' split
    all_goals first | rfl | (exfalso; omega)
  · rename_i h
    rw [List.getElem?_take, List.getElem?_drop, List.getElem?_take, List.getElem?_drop]
    by_cases hi : i < s
    · rw [if_pos hi, if_pos hi, List.getElem?_set, if_neg (by omega)]
    · rw [if_neg hi, if_neg hi]
theorem Own.head {α : Type} {t : Ty α} {e : TypeId} {w : World} {S : Nat → Prop} {A : Option Addr} {n c : Nat} {xs : List α} (h : Own t e w S (.slice A n c) xs) (hn : 0 < xs.length) : ∃ g, A = some ⟨g, 0, none⟩ ∧ S g ∧ g < w.heap.size := by
  have hlt := h.lt
  obtain ⟨hS, inner, ho, hk⟩ := h
  rcases ho.2 with ⟨h1, h2⟩ | ⟨g, cap, cur, h1, _⟩
  · omega
  · injection h1 with h1 _ _
    subst h1
    exact ⟨g, rfl, hS g rfl, hlt g rfl⟩
theorem Own.frozenC {α : Type} {t : Ty α} {e : TypeId} {w : World} {S : Nat → Prop} {g n c : Nat} {xs : List α} (h : Own t e w S (.slice (some ⟨g, 0, none⟩) n c) xs) (j : Nat) : w.frozen? ⟨g, j, none⟩ = false := by
  obtain ⟨hS, inner, ho, hk⟩ := h
  have hn : n = xs.length := by
    rcases ho.2 with ⟨h1, _⟩ | ⟨_, _, _, h1, _⟩
    · simp at h1
    · injection h1
  subst hn
  exact ho.frozenAt j

theorem Own.n_eq {α : Type} {t : Ty α} {e : TypeId} {w : World} {S : Nat → Prop} {A : Option Addr} {n c : Nat} {xs : List α} (h : Own t e w S (.slice A n c) xs) : n = xs.length := h.row.n_eq.1
/-- One cell of one element of a flat kind. -/
theorem Own.setFlat {α : Type} {sz : Nat} {pos : 0 < sz} {enc : α → List Value} {hl : ∀ x, (enc x).length = sz} {h1 : ∀ x, ∀ u ∈ enc x, u.oneCell' = true} {w : World} {e : TypeId} {S : Nat → Prop} {g n c : Nat} {xs : List α}
    (h : Own (Ty.flat sz pos enc hl h1) e w S (.slice (some ⟨g, 0, none⟩) n c) xs) {p i : Nat} {y y' : α} {u : Value} (hy : xs[p]? = some y) (hi : i < sz) (hu : enc y' = (enc y).set i u) :
    Own (Ty.flat sz pos enc hl h1) e (w.setCell ⟨g, p * sz + i, none⟩ u) S (.slice (some ⟨g, 0, none⟩) n c) (xs.set p y') := by
  have hn := h.n_eq
  obtain ⟨hS, inner, ho, hk⟩ := h
  subst hn
  have hp : p < xs.length := (List.getElem?_eq_some_iff.1 hy).1
  refine ⟨hS, _, by rw [List.length_set]; exact (ho.stored (p * sz + i) u).1, fun j x hj => ?_⟩
  show ((inner.set (p * sz + i) u).drop (j * sz)).take sz = enc x
  have hk' : ∀ (j : Nat) (x : α), xs[j]? = some x → (inner.drop (j * sz)).take sz = enc x := fun j x hj => hk j x hj
  rw [List.getElem?_set] at hj
  rw [drop_take_set]
  by_cases hjp : p = j
  · subst hjp
    rw [if_pos rfl, if_pos hp] at hj
    injection hj with hj
    subst hj
    rw [if_pos (by omega), hk' p y hy, hu]
    congr 1
    omega
  · rw [if_neg hjp] at hj
    rw [if_neg, hk' j x hj]
    rintro ⟨a1, a2⟩
    rcases Nat.lt_or_ge p j with hpj | hpj
    · have : (p + 1) * sz ≤ j * sz := Nat.mul_le_mul_right sz hpj
      rw [Nat.add_mul, Nat.one_mul] at this
      omega
    · have : (j + 1) * sz ≤ p * sz := Nat.mul_le_mul_right sz (by omega)
      rw [Nat.add_mul, Nat.one_mul] at this
      omega
/-- A flat slice hangs on its own block alone. -/
theorem Own.keepFlat {α : Type} {sz : Nat} {pos : 0 < sz} {enc : α → List Value} {hl : ∀ x, (enc x).length = sz} {h1 : ∀ x, ∀ u ∈ enc x, u.oneCell' = true} {w w' : World} {e : TypeId} {S : Nat → Prop} {v : Value} {xs : List α}
    (h : Own (Ty.flat sz pos enc hl h1) e w S v xs) (hs : ∀ k, v.ownBlock = some k → w'.heap[k]? = w.heap[k]?) : Own (Ty.flat sz pos enc hl h1) e w' S v xs := Own.moveF (fun h => h) h hs
theorem Own.clsFlat {α : Type} {sz : Nat} {pos : 0 < sz} {enc : α → List Value} {hl : ∀ x, (enc x).length = sz} {h1 : ∀ x, ∀ u ∈ enc x, u.oneCell' = true} {w : World} {e : TypeId} {S S' : Nat → Prop} {v : Value} {xs : List α}
    (h : Own (Ty.flat sz pos enc hl h1) e w S v xs) (hs : ∀ k, v.ownBlock = some k → S' k) : Own (Ty.flat sz pos enc hl h1) e w S' v xs := by
  obtain ⟨hS, inner, ho, hk⟩ := h
  exact ⟨hs, inner, ho, fun j x hj => hk j x hj⟩
/-- A graph of the call's own: each slice in a block of its own, from B on. -/
structure OwnG (w : World) (B : Nat) (g : GraphD) (vn ve : Value) (nvs : List NV) : Prop where
  nodes : Own tNV 32 w (fun k => B ≤ k) vn nvs
  edges : Own tEdge 40 w (fun k => B ≤ k) ve g.edges
  len : nvs.length = g.nodes.length
  each : ∀ (j : Nat) (v : NV) (x : NodeD), nvs[j]? = some v → g.nodes[j]? = some x → v.id = x.id ∧ Own tP 47 w (fun k => B ≤ k) (.slice v.A v.n v.c) x.ps
  ne : ∀ k, vn.ownBlock = some k → ve.ownBlock ≠ some k
  np : ∀ (j : Nat) (v : NV) (k : Nat), nvs[j]? = some v → (Value.slice v.A v.n v.c).ownBlock = some k → vn.ownBlock ≠ some k ∧ ve.ownBlock ≠ some k
  pp : ∀ (i j : Nat) (u v : NV) (k : Nat), i < j → nvs[i]? = some u → nvs[j]? = some v → (Value.slice u.A u.n u.c).ownBlock = some k → (Value.slice v.A v.n v.c).ownBlock ≠ some k
theorem OwnG.gr {w : World} {B : Nat} {g : GraphD} {vn ve : Value} {nvs : List NV} (h : OwnG w B g vn ve nvs) : Gr w (fun k => B ≤ k) g vn ve :=
  ⟨⟨nvs, h.nodes.row, h.len, fun j v x h1 h2 => ⟨(h.each j v x h1 h2).1, (h.each j v x h1 h2).2.row⟩⟩, h.edges.row⟩
theorem OwnG.below {w w' : World} {B : Nat} {g : GraphD} {vn ve : Value} {nvs : List NV} (h : OwnG w B g vn ve nvs) (hb : Below w.heap.size w w') : OwnG w' B g vn ve nvs :=
  ⟨h.nodes.below hb, h.edges.below hb, h.len, fun j v x h1 h2 => ⟨(h.each j v x h1 h2).1, (h.each j v x h1 h2).2.below hb⟩, h.ne, h.np, h.pp⟩
/-- Blocks that the graph does not lie in may be written. -/
theorem OwnG.move {w w' : World} {B : Nat} {g : GraphD} {vn ve : Value} {nvs : List NV} (h : OwnG w B g vn ve nvs) (hs : Same (fun k => B ≤ k) w w') : OwnG w' B g vn ve nvs :=
  ⟨h.nodes.move hs, h.edges.move hs, h.len, fun j v x h1 h2 => ⟨(h.each j v x h1 h2).1, (h.each j v x h1 h2).2.move hs⟩, h.ne, h.np, h.pp⟩
end Go.Proofs.Ytpehmmdbjakkpaa
