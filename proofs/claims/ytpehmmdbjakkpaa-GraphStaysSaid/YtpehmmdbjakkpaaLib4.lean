/- Own slices in a variable across the rounds of a range over a function. -/
import Derived.RangeFuncNested
import Derived.RangeFuncBox
import Derived.Test.YtpehmmdbjakkpaaLib3
namespace Go.Proofs.Ytpehmmdbjakkpaa
open Go.RowKit
theorem Own.moveF {α : Type} {t : Ty α} {e : TypeId} {w w' : World} {S : Nat → Prop} {v : Value} {xs : List α} (hf : ∀ {W W' : World} {S x cs}, t.K W S x cs → t.K W' S x cs) (h : Own t e w S v xs) (hs : ∀ k, v.ownBlock = some k → w'.heap[k]? = w.heap[k]?) : Own t e w' S v xs := by
  obtain ⟨hS, inner, ho, hk⟩ := h
  exact ⟨hS, inner, ownsRow_same ho hs, fun j x hj => hf (hk j x hj)⟩
theorem Own.cells {α : Type} {t : Ty α} {e : TypeId} {w : World} {S : Nat → Prop} {v : Value} {xs : List α} (h : Own t e w S v xs) {k : Nat} (hk : v.ownBlock = some k) : ∃ cs, w.heap[k]? = some (.cells cs e (0, 0)) := by
  obtain ⟨hS, inner, ho, _⟩ := h
  rcases ho.2 with ⟨rfl, _⟩ | ⟨g, cap, cur, rfl, _, hh, _⟩
  · simp [Value.ownBlock] at hk
  · obtain rfl : g = k := by simpa [Value.ownBlock] using hk
    exact ⟨cur, hh⟩
theorem kept_putObj {T : Nat → Prop} (W : World) (l : Nat) (o : Obj) (h : ¬ T l) : Kept W T (W.putObj l o) := ⟨by simp, fun k hT _ => World.putObj_heap_other (fun e => h (e ▸ hT))⟩
/-- A variable (block B) holds a slice of the call's own. -/
def HeldF {α β : Type} (t : Ty α) (tv e : TypeId) (n₁ B : Nat) (f : β → List α) (s : β) (W : World) : Prop := ∃ v, Boxed W B tv v ∧ Own t e W (fun k => n₁ ≤ k) v (f s) ∧ n₁ ≤ W.heap.size
theorem heldF_own {α β : Type} (t : Ty α) (hf : ∀ {W W' : World} {S x cs}, t.K W S x cs → t.K W' S x cs) (tv e : TypeId) (n₁ B B0 : Nat) (f : β → List α) : OwnFrom B0 (HeldF t tv e n₁ B f) := by
  rintro s W W' row ⟨v, hb, ho, hn⟩ hg hr
  have ne : ∀ (k : Nat) (cs : Array Value) (e' : TypeId) (fr : Nat × Nat), W.heap[k]? = some (.cells cs e' fr) → some k ≠ row := by
    intro k cs e' fr hk e1
    obtain ⟨_, o, ho, hc⟩ := hr k e1.symm
    rw [hk] at ho
    cases ho
    cases hc
  refine ⟨v, hb.kept hg (ne _ _ _ _ hb), ho.moveF hf fun k hk => ?_, Nat.le_trans hn hg.size⟩
  obtain ⟨cs, hcs⟩ := ho.cells hk
  exact hg.block k (heap_lt hcs) (ne _ _ _ _ hcs)
theorem keepsFrom_of {B0 : Nat} {W W' : World} (hs : W.heap.size ≤ W'.heap.size) (h : ∀ k, k < W.heap.size → (∀ cs e fr, W.heap[k]? ≠ some (.cells cs e fr)) → W'.heap[k]? = W.heap[k]?) : KeepsFrom B0 W W' := by
  refine ⟨hs, fun k o _ hk hc => ?_⟩
  rw [h k (heap_lt hk) (fun cs e fr e1 => by rw [hk] at e1; cases e1; cases hc)]
  exact hk
theorem keepsFrom_below {B0 : Nat} {W W' : World} (h : Below W.heap.size W W') : KeepsFrom B0 W W' := keepsFrom_of h.size fun k hk _ => h.block k hk
/-- A round's append into the variable: what stands behind it. -/
theorem heldF_appended {α β : Type} {t : Ty α} {tv e : TypeId} {n₀ n₁ B B0 : Nat} {f : β → List α} {s s' : β} {W W1 W2 : World} {v v' : Value} (hb : Boxed W B tv v) (ho : Own t e W (fun k => n₁ ≤ k) v (f s)) (hnB : n₀ ≤ B) (hBn : B < n₁) (hnW : n₁ ≤ W.heap.size)
    (h1 : Below W.heap.size W W1) (hg : W1.grownBy W2 v.ownBlock) (ho2 : Own t e W2 (fun k => n₁ ≤ k) v' (f s')) :
    Boxed W2 B tv v ∧ HeldF t tv e n₁ B f s' (W2.setCell ⟨B, 0, none⟩ v') ∧ KeepsFrom B0 W (W2.setCell ⟨B, 0, none⟩ v') ∧ Below n₀ W (W2.setCell ⟨B, 0, none⟩ v') ∧ Kept W (fun k => k ≠ B ∧ k < n₁) (W2.setCell ⟨B, 0, none⟩ v') := by
  have hb1 : Boxed W1 B tv v := (h1.block B hb.lt).trans hb
  have hne : ∀ k, k < n₁ → some k ≠ v.ownBlock := fun k hk e1 => by have h2 : n₁ ≤ k := ho.1 k e1.symm; omega
  have hb2 : Boxed W2 B tv v := hb1.kept hg (hne B hBn)
  have hsz := h1.size
  have hsz2 := hg.size
  refine ⟨hb2, ⟨v', hb2.set v', ho2.move (Same.of_setCell _ _ _ fun k (hk : n₁ ≤ k) e1 => by have e2 : k = B := e1; omega), by simp [World.setCell]; omega⟩, ?_, ?_, ?_⟩
  · refine keepsFrom_of (by simp [World.setCell]; omega) fun k hk hc => ?_
    rw [Below.heap_setCell _ _ _ _ (by rintro rfl; exact hc _ _ _ hb)]
    rw [hg.block k (Nat.lt_of_lt_of_le hk h1.size) (fun e1 => by
      obtain ⟨cs, hcs⟩ := ho.cells e1.symm
      exact hc _ _ _ hcs)]
    exact h1.block k hk
  · refine (((h1.mono (by omega)).trans ?_).setCell (p := ⟨B, 0, none⟩) hnB _)
    exact ⟨hg.os, hg.tape, hg.output, hg.size, fun k hk => hg.block k (by omega) (hne k (by omega))⟩
  · exact (((Kept.refl W _).below h1).grown hg fun k hk => .inr fun h2 => hne k h2.2 hk.symm).setCell (p := ⟨B, 0, none⟩) (.inr fun h2 => h2.1 rfl) _
end Go.Proofs.Ytpehmmdbjakkpaa
