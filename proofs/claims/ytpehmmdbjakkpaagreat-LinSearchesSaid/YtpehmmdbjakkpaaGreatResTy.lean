/- Results in a row. -/
import Derived.Test.YtpehmmdbjakkpaaGreatSameRes
import Derived.Test.YtpehmmdbjakkpaaGreatBaseM
import Derived.Laws.MakeOwn
namespace Go.Proofs.YtpehmmdbjakkpaaGreat
open Go.RowKit Go.Shelf
set_option linter.unusedSimpArgs false
set_option linter.unusedVariables false
/-- A result as it lies. -/
structure RV where
 st : Int
 id : Int
 a1 : Option Addr
 n1 : Nat
 c1 : Nat
 a2 : Option Addr
 n2 : Nat
 c2 : Nat
 a3 : Option Addr
 n3 : Nat
 c3 : Nat
def RV.cells (v : RV) : List Value := [.int .i64 v.st, .int .i64 v.id, .slice v.a1 v.n1 v.c1, .slice v.a2 v.n2 v.c2, .slice v.a3 v.n3 v.c3]
def RV.zero : RV := ⟨0, 0, none, 0, 0, none, 0, 0, none, 0, 0⟩
/-- One lies as the other one says. -/
structure RV1 (w : World) (S : Nat → Prop) (v : RV) (r : ResD) : Prop where
 st : v.st = r.st
 id : v.id = r.id
 ps : Row tP w S (.slice v.a1 v.n1 v.c1) r.ps
 os : Row tP w S (.slice v.a2 v.n2 v.c2) r.os
 is : Row tP w S (.slice v.a3 v.n3 v.c3) r.is
theorem RV1.res {w : World} {S : Nat → Prop} {v : RV} {r : ResD} (h : RV1 w S v r) : Res w S r (.agg #[.int .i64 v.st, .int .i64 v.id, .slice v.a1 v.n1 v.c1, .slice v.a2 v.n2 v.c2, .slice v.a3 v.n3 v.c3]) :=
 ⟨_, _, _, by rw [h.st, h.id], h.ps, h.os, h.is⟩
theorem RV1.of {w : World} {S : Nat → Prop} {r : ResD} {a1 a2 a3 : Option Addr} {d1 d2 d3 : Nat} (h : Res w S r (.agg #[.int .i64 r.st, .int .i64 r.id, .slice a1 r.ps.length d1, .slice a2 r.os.length d2, .slice a3 r.is.length d3])) : RV1 w S ⟨r.st, r.id, a1, r.ps.length, d1, a2, r.os.length, d2, a3, r.is.length, d3⟩ r := by
 obtain ⟨vp, vo, vi, e, h1, h2, h3⟩ := h
 simp only [Value.agg.injEq, Array.mk.injEq, List.cons.injEq, true_and, and_true] at e
 obtain ⟨rfl, rfl, rfl⟩ := e
 exact ⟨rfl, rfl, h1, h2, h3⟩
theorem RV1.mono {w : World} {S S' : Nat → Prop} {v : RV} {r : ResD} (h : RV1 w S v r) (hs : ∀ k, S k → k < w.heap.size → S' k) : RV1 w S' v r := ⟨h.st, h.id, h.ps.mono hs, h.os.mono hs, h.is.mono hs⟩
theorem RV1.move {w w' : World} {S : Nat → Prop} {v : RV} {r : ResD} (h : RV1 w S v r) (hs : Same S w w') : RV1 w' S v r := ⟨h.st, h.id, h.ps.move hs, h.os.move hs, h.is.move hs⟩
theorem RV1.zero (w : World) (S : Nat → Prop) : RV1 w S RV.zero ResD.nil := ⟨rfl, rfl, Row.nil _ _ _, Row.nil _ _ _, Row.nil _ _ _⟩
def RVs (w : World) (S : Nat → Prop) (vs : List RV) (rs : List ResD) : Prop := vs.length = rs.length ∧ ∀ (j : Nat) (v : RV) (r : ResD), vs[j]? = some v → rs[j]? = some r → RV1 w S v r
section
variable {w w' : World} {S S' : Nat → Prop} {vs : List RV} {rs : List ResD}
theorem RVs.nil (w : World) (S : Nat → Prop) : RVs w S [] [] := ⟨rfl, fun j v r h => by simp at h⟩
theorem RVs.mono (h : RVs w S vs rs) (hs : ∀ k, S k → k < w.heap.size → S' k) : RVs w S' vs rs := ⟨h.1, fun j v r h1 h2 => (h.2 j v r h1 h2).mono hs⟩
theorem RVs.move (h : RVs w S vs rs) (hs : Same S w w') : RVs w' S vs rs := ⟨h.1, fun j v r h1 h2 => (h.2 j v r h1 h2).move hs⟩
theorem RVs.below (h : RVs w S vs rs) (hb : Below w.heap.size w w') : RVs w' S vs rs := h.move (.of_below hb)
theorem RVs.bound (h : RVs w S vs rs) : RVs w (fun k => S k ∧ k < w.heap.size) vs rs := h.mono fun _ h1 h2 => ⟨h1, h2⟩
theorem RVs.snoc (h : RVs w S vs rs) {v : RV} {r : ResD} (hv : RV1 w S v r) : RVs w S (vs ++ [v]) (rs ++ [r]) := by
 refine ⟨by simp [h.1], fun j u s h1 h2 => ?_⟩
 rw [List.getElem?_append] at h1 h2
 split at h1
 ·
  rw [if_pos (by rw [← h.1]; assumption)] at h2
  exact h.2 j u s h1 h2
 ·
  rw [if_neg (by rw [← h.1]; assumption)] at h2
  rw [h.1] at h1
  obtain ⟨rfl, e1⟩ : v = u ∧ j - rs.length = 0 := by
   cases hj : j - rs.length with
   | zero => rw [hj] at h1; simp at h1; exact ⟨h1, rfl⟩
   | succ n => rw [hj] at h1; simp at h1
  rw [e1] at h2
  simp at h2
  subst h2
  exact hv
/-- One is set. -/
theorem RVs.put (h : RVs w S vs rs) {v : RV} {r : ResD} (hv : RV1 w S v r) (j : Nat) : RVs w S (vs.set j v) (rs.set j r) := by
 refine ⟨by simp [h.1], fun i u s h1 h2 => ?_⟩
 rw [List.getElem?_set] at h1 h2
 by_cases e : j = i
 ·
  subst e
  rw [if_pos rfl] at h1 h2
  split at h1
  ·
   rw [if_pos (by rw [← h.1]; assumption)] at h2
   injection h1 with h1
   injection h2 with h2
   subst h1 h2
   exact hv
  ·
   cases h1
 ·
  rw [if_neg e] at h1 h2
  exact h.2 i u s h1 h2
end
end Go.Proofs.YtpehmmdbjakkpaaGreat
