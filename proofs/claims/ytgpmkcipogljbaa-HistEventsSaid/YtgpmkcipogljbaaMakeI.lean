/- A slice of numbers, made, and set. -/
import Derived.Test.YtgpmkcipogljbaaDTy
import Derived.Test.YtgpmkcipogljbaaLib6
import Derived.Laws.MakeOwn
namespace Go.Proofs.Ytgpmkcipogljbaa
open Go.RowKit
set_option linter.unusedSimpArgs false
set_option linter.unusedVariables false
theorem Row.atInt {w : World} {S : Nat → Prop} {A : Option Addr} {n c : Nat} {xs : List Int} (h : Row tInt w S (.slice A n c) xs) {j : Nat} {x : Int} (hj : xs[j]? = some x) :
    ∃ b off, A = some ⟨b, off, none⟩ ∧ b < w.heap.size ∧ w.cell? ⟨b, off + j, none⟩ = some (.int .i64 x) := by
  obtain ⟨b, off, cs, hA, _, hl, hk, hr⟩ := h.at hj
  have hk' : cs = [.int .i64 x] := hk
  subst hk'
  have h1 : w.rangeAt b (off + j * 1) [.int .i64 x] := hr
  rw [Nat.mul_one] at h1
  exact ⟨b, off, hA, hl, range1 h1⟩
theorem elemInt : ElemOf Try.prog 41 3 tInt.sz 8 (.int .i64 0) := ⟨Try.underlying41, by kernel_rfl, rfl⟩
theorem take1_of {α : Type} {l : List α} {i : Nat} {v : α} (h : l[i]? = some v) : (l.drop i).take 1 = [v] := by
  obtain ⟨hi, rfl⟩ := List.getElem?_eq_some_iff.1 h
  rw [List.drop_eq_getElem_cons hi]
  rfl
theorem of_take1 {α : Type} {l : List α} {i : Nat} {v : α} (h : (l.drop i).take 1 = [v]) : l[i]? = some v := by
  have : ((l.drop i).take 1)[0]? = some v := by rw [h]; rfl
  simpa using this
theorem Own.ofMade {w : World} {e : TypeId} {n : Nat} (hn : n ≤ maxLen) (S : Nat → Prop) (hS : S w.heap.size) : Own tInt e (w.alloc (.cells (madeCells #[.int .i64 0] n) e)) S (.slice (some ⟨w.heap.size, 0, none⟩) n n) (List.replicate n 0) := by
  refine ⟨fun k hk => by injection hk with hk; exact hk ▸ hS, List.replicate n (.int .i64 0), ?_, ?_⟩
  · refine ⟨by simp [tInt, Ty.flat], .inr ⟨w.heap.size, n, _, by simp, Nat.zero_le _, heap_alloc_new w _, by simp, hn, by rw [size_madeCells]; show n = n * 1; omega, ?_⟩⟩
    rw [toList_madeCells_one]
    exact List.take_of_length_le (by simp [tInt, Ty.flat])
  · intro j x hj
    have h2 := hj
    rw [List.getElem?_replicate] at h2
    have hj' : j < n ∧ (0 : Int) = x := by
      split at h2
      · injection h2 with h2; exact ⟨‹_›, h2⟩
      · cases h2
    obtain ⟨h1, rfl⟩ := hj'
    show List.take 1 (List.drop (j * 1) (List.replicate n (Value.int .i64 0))) = [.int .i64 0]
    rw [Nat.mul_one]
    exact take1_of (by rw [List.getElem?_replicate, if_pos h1])
theorem Own.setI {w : World} {e : TypeId} {S : Nat → Prop} {g n c : Nat} {xs : List Int} (h : Own tInt e w S (.slice (some ⟨g, 0, none⟩) n c) xs) (j : Nat) (u : Int) : Own tInt e (w.setCell ⟨g, j, none⟩ (.int .i64 u)) S (.slice (some ⟨g, 0, none⟩) n c) (xs.set j u) := by
  obtain ⟨hS, inner, ho, hk⟩ := h
  have hn : n = xs.length := by
    rcases ho.2 with ⟨h1, _⟩ | ⟨_, _, _, h1, _⟩
    · simp at h1
    · injection h1
  subst hn
  refine ⟨hS, inner.set j (.int .i64 u), by rw [List.length_set]; exact (ho.stored j _).1, fun i x hi => ?_⟩
  have hl : inner.length = xs.length := by have := ho.1; simpa [tInt, Ty.flat] using this
  show List.take 1 (List.drop (i * 1) (inner.set j (Value.int .i64 u))) = [.int .i64 x]
  rw [Nat.mul_one]
  refine take1_of ?_
  rw [List.getElem?_set] at hi ⊢
  split at hi
  · subst_vars
    split at hi
    · rw [if_pos rfl, if_pos (by omega)]; injection hi with hi; rw [hi]
    · cases hi
  · rw [if_neg ‹_›]
    have := hk i x hi
    have h1 : List.take 1 (List.drop (i * 1) inner) = [.int .i64 x] := this
    rw [Nat.mul_one] at h1
    exact of_take1 h1
theorem Own.frozenI {w : World} {e : TypeId} {S : Nat → Prop} {g n c : Nat} {xs : List Int} (h : Own tInt e w S (.slice (some ⟨g, 0, none⟩) n c) xs) (j : Nat) : w.frozen? ⟨g, j, none⟩ = false := by
  obtain ⟨hS, inner, ho, hk⟩ := h
  have hn : n = xs.length := by
    rcases ho.2 with ⟨h1, _⟩ | ⟨_, _, _, h1, _⟩
    · simp at h1
    · injection h1
  subst hn
  exact ho.frozenAt j
theorem Own.cellI {w : World} {e : TypeId} {S : Nat → Prop} {g n c : Nat} {xs : List Int} (h : Own tInt e w S (.slice (some ⟨g, 0, none⟩) n c) xs) {j : Nat} {x : Int} (hj : xs[j]? = some x) : w.cell? ⟨g, j, none⟩ = some (.int .i64 x) := by
  obtain ⟨b, off, hA, _, hc⟩ := h.row.atInt hj
  injection hA with hA
  injection hA with h1 h2
  subst h1 h2
  rwa [Nat.zero_add] at hc
theorem made_run (W : World) (n : Nat) (hn : n ≤ 1000000) : (Instr.makeSlice 41 (.int .i64 (n : Int)) (.int .i64 (n : Int))).run Try.prog W = .ok (.slice (some ⟨W.heap.size, 0, none⟩) n n) (W.alloc (.cells (madeCells #[.int .i64 0] n) 3)) := by
  obtain ⟨i, hi, hz⟩ := Option.map_eq_some_iff.1 elemInt.info
  injection hz with hz1 hz2
  injection hz2 with hz2 hz3
  have := run_make (P := Try.prog) W 41 3 i (.int .i64 0) elemInt.slice hi hz1 .i64 .i64 n n (by omega) (by omega) (by rw [hz3]; omega) (by omega)
  have e1 : n * tInt.sz = n := Nat.mul_one _
  have e2 : (Value.int .i64 0).cells = #[.int .i64 0] := rfl
  rw [hz2, Int.toNat_natCast, e1, e2] at this
  exact this
end Go.Proofs.Ytgpmkcipogljbaa
