/- clear(s[i:]), and what is owned ahead of it. -/
import Derived.Test.YtpehmmdbjakkpaaIdxF
import Derived.Lib.SliceRun
import Derived.Laws.IdiomCopy
namespace Go.Proofs.Ytpehmmdbjakkpaa
open Go.RowKit Go.Shelf
set_option linter.unusedSimpArgs false
set_option linter.unusedVariables false
theorem run_clearN (w : World) (t e : TypeId) (z : Value) (ht : Try.prog.underlying t = some (.slice e)) (hv : ∀ w, (zeroValue e).run Try.prog w = .ok z w) (h1 : ∀ u ∈ z.cells.toList, u.oneCell' = true) (hz : 0 < z.cells.size) (b o n c : Nat)
    (hc : ∀ j, j < n * z.cells.size → (w.cell? ⟨b, o + j, none⟩).isSome = true) (hf : ∀ j, j < n * z.cells.size → w.frozen? ⟨b, o + j, none⟩ = false) :
    ∃ vs : List Value, vs.length = n * z.cells.size ∧ ∀ ty, (Builtin.clear_ #[t] ty #[.slice (some ⟨b, o, none⟩) n c]).run Try.prog w = .ok (.tuple #[]) (w.setCells b o vs) := by
  rcases n with _ | m
  · exact ⟨[], by simp, fun ty => by simp [Builtin.clear_, run_underlying ht, World.setCells]⟩
  · refine ⟨(Builtin.zeroCells z.cells (m + 1)).toList, by simp [Builtin.zeroCells], ?_⟩
    have hst := run_storeCells_cells (P := Try.prog) b o (Builtin.zeroCells z.cells (m + 1)).toList 0 w (by simpa [Builtin.zeroCells] using hc) (by simpa [Builtin.zeroCells] using hf) (by
      intro v hv'
      simp only [Builtin.zeroCells, Array.toList_map, List.mem_map, Array.toList_range, List.mem_range] at hv'
      obtain ⟨i, _, rfl⟩ := hv'
      refine h1 _ ?_
      have hi : i % z.cells.size < z.cells.size := Nat.mod_lt _ hz
      rw [getElem!_pos z.cells _ hi]
      simp)
    simp only [Nat.add_zero] at hst
    intro ty
    simp [Builtin.clear_, run_underlying ht, hv, hst]
theorem take_set_of_le {α : Type} {l : List α} {m o : Nat} {u : α} (h : m ≤ o) : (l.set o u).take m = l.take m := by
  apply List.ext_getElem?
  intro i
  rw [List.getElem?_take, List.getElem?_take]
  split
  · rw [List.getElem?_set_ne (by omega)]
  · rfl
theorem setCells_row {base : Nat} {e : TypeId} {sz g n c m : Nat} : ∀ (vs : List Value) (o : Nat) (w : World) (inner : List Value), w.ownsRow base e sz (.slice (some ⟨g, 0, none⟩) n c) n inner → m ≤ o → ∃ inner', (w.setCells g o vs).ownsRow base e sz (.slice (some ⟨g, 0, none⟩) n c) n inner' ∧ inner'.take m = inner.take m := by
  intro vs
  induction vs with
  | nil => intro o w inner h _; exact ⟨inner, h, rfl⟩
  | cons v r ih =>
    intro o w inner h ho
    obtain ⟨inner', h1, h2⟩ := ih (o + 1) _ _ (h.stored o v).1 (by omega)
    exact ⟨inner', h1, by rw [h2, take_set_of_le ho]⟩
theorem setCells_heap {g : Nat} : ∀ (vs : List Value) (o : Nat) (w : World) (k : Nat), k ≠ g → (w.setCells g o vs).heap[k]? = w.heap[k]? := by
  intro vs
  induction vs with
  | nil => intro o w k _; rfl
  | cons v r ih =>
    intro o w k hk
    show ((w.setCell ⟨g, o, none⟩ v).setCells g (o + 1) r).heap[k]? = _
    rw [ih _ _ _ hk, Below.heap_setCell _ ⟨g, o, none⟩ _ k hk]
theorem setCells_below {g B : Nat} {w0 : World} (hg : B ≤ g) : ∀ (vs : List Value) (o : Nat) (w : World), Below B w0 w → Below B w0 (w.setCells g o vs) := by
  intro vs
  induction vs with
  | nil => intro o w h; exact h
  | cons v r ih => intro o w h; exact ih _ _ (h.setCell hg _)
theorem setCells_size {g : Nat} : ∀ (vs : List Value) (o : Nat) (w : World), (w.setCells g o vs).heap.size = w.heap.size := by
  intro vs
  induction vs with
  | nil => intro o w; rfl
  | cons v r ih =>
    intro o w
    show ((w.setCell ⟨g, o, none⟩ v).setCells g (o + 1) r).heap.size = _
    rw [ih, World.size_setCell]
theorem Own.isSomeO {α : Type} {t : Ty α} {w : World} {e : TypeId} {S : Nat → Prop} {g n c : Nat} {xs : List α}
    (h : Own t e w S (.slice (some ⟨g, 0, none⟩) n c) xs) {o : Nat} (ho : o < n * t.sz) : (w.cell? ⟨g, o, none⟩).isSome = true := by
  have hn := h.n_eq
  obtain ⟨hS, inner, hr, hk⟩ := h
  subst hn
  rcases hr.2 with ⟨r2, _⟩ | ⟨g', cap, cur, hv, hg, hh, hnc, hcm, hcs, ht⟩
  · simp at r2
  · injection hv with e1 _ e3
    injection e1 with e1
    injection e1 with e1
    subst e1 e3
    have h1 : xs.length * t.sz ≤ c * t.sz := Nat.mul_le_mul_right t.sz hnc
    simp [World.cell?, hh]
    omega
/-- The tail is written over, and the slice cut ahead of it. -/
theorem Own.cutTail {α : Type} {sz : Nat} {pos : 0 < sz} {enc : α → List Value} {hl : ∀ x, (enc x).length = sz} {h1 : ∀ x, ∀ u ∈ enc x, u.oneCell' = true} {w : World} {e : TypeId} {S : Nat → Prop} {g n c : Nat} {xs : List α}
    (h : Own (Ty.flat sz pos enc hl h1) e w S (.slice (some ⟨g, 0, none⟩) n c) xs) {i : Nat} (hi : i ≤ n) (vs : List Value) :
    Own (Ty.flat sz pos enc hl h1) e (w.setCells g (i * sz) vs) S (.slice (some ⟨g, 0, none⟩) i c) (xs.take i) := by
  have hn := h.n_eq
  obtain ⟨hS, inner, ho, hk⟩ := h
  subst hn
  have hlen : (xs.take i).length = i := by rw [List.length_take]; omega
  obtain ⟨inner', h2, h3⟩ := setCells_row (m := i * sz) vs (i * sz) w inner ho (Nat.le_refl _)
  have hle : i * sz ≤ xs.length * sz := Nat.mul_le_mul_right sz hi
  refine ⟨fun k hk => hS k hk, inner'.take (i * sz), ?_, fun j x hj => ?_⟩
  · rw [hlen]
    obtain ⟨r1, r2⟩ := h2
    rcases r2 with ⟨r2, _⟩ | ⟨g', cap, cur, hv, hg, hh, hnc, hcm, hcs, ht⟩
    · simp at r2
    · injection hv with e1 _ e3
      injection e1 with e1
      injection e1 with e1
      subst e1 e3
      refine ⟨by rw [List.length_take, r1]; show min (i * sz) (xs.length * sz) = i * sz; omega, .inr ⟨g, c, cur, rfl, hg, hh, by omega, hcm, hcs, ?_⟩⟩
      rw [← ht, List.take_take]
      show _ = List.take (min (i * sz) (xs.length * sz)) _
      rw [Nat.min_eq_left hle]
      rfl
  · show ((inner'.take (i * sz)).drop (j * sz)).take sz = enc x
    rw [h3]
    rw [List.getElem?_take] at hj
    split at hj
    · rename_i hji
      have h4 : (inner.drop (j * sz)).take sz = enc x := hk j x hj
      rw [← h4, List.drop_take, List.take_take]
      have : (j + 1) * sz ≤ i * sz := Nat.mul_le_mul_right sz hji
      rw [Nat.add_mul, Nat.one_mul] at this
      rw [Nat.min_eq_left (by omega)]
    · cases hj
theorem zero_of {P : Program} {e : TypeId} {i : TypeInfo} {z : Value} (hi : P.info? e = some i) (hz : i.zero = some z) (w : World) : (zeroValue e).run P w = .ok z w := by
  simp [zeroValue, typeInfo, hi, hz]
theorem zeroNode (w : World) : (zeroValue 32).run Try.prog w = .ok (.agg #[.int .i64 0, .slice none 0 0]) w := by
  obtain ⟨i, hi, hz⟩ := Option.map_eq_some_iff.1 elemNodes.info
  have hz1 := congrArg Prod.fst hz
  exact zero_of hi hz1 w
theorem zeroEdge (w : World) : (zeroValue 40).run Try.prog w = .ok (.agg #[.int .i64 0, .int .i64 0, .int .i64 0]) w := by
  obtain ⟨i, hi, hz⟩ := Option.map_eq_some_iff.1 elemEdges.info
  have hz1 := congrArg Prod.fst hz
  exact zero_of hi hz1 w
end Go.Proofs.Ytpehmmdbjakkpaa
