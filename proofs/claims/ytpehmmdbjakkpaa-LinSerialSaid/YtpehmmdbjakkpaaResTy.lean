/- Results in a row. -/
import Derived.Test.YtpehmmdbjakkpaaSameRes
import Derived.Test.YtpehmmdbjakkpaaBaseM
import Derived.Laws.MakeOwn
namespace Go.Proofs.Ytpehmmdbjakkpaa
open Go.RowKit Go.Shelf
set_option linter.unusedSimpArgs false
set_option linter.unusedVariables false
/-- A result as it lies. -/
structure RV where
  st : Int
  id : Int
  a1 : Option Addr
  n1 : Nat
  c1 : Nat
  a2 : Option Addr
  n2 : Nat
  c2 : Nat
  a3 : Option Addr
  n3 : Nat
  c3 : Nat
def RV.cells (v : RV) : List Value := [.int .i64 v.st, .int .i64 v.id, .slice v.a1 v.n1 v.c1, .slice v.a2 v.n2 v.c2, .slice v.a3 v.n3 v.c3]
def RV.zero : RV := ⟨0, 0, none, 0, 0, none, 0, 0, none, 0, 0⟩
def tRV : Ty RV := Ty.flat 5 (by decide) RV.cells (fun _ => rfl) (fun x u hu => by
  simp only [RV.cells, List.mem_cons, List.not_mem_nil, or_false] at hu
  rcases hu with rfl | rfl | rfl | rfl | rfl <;> rfl)
/-- One lies as the other one says. -/
structure RV1 (w : World) (S : Nat → Prop) (v : RV) (r : ResD) : Prop where
  st : v.st = r.st
  id : v.id = r.id
  ps : Row tP w S (.slice v.a1 v.n1 v.c1) r.ps
  os : Row tP w S (.slice v.a2 v.n2 v.c2) r.os
  is : Row tP w S (.slice v.a3 v.n3 v.c3) r.is
theorem RV1.res {w : World} {S : Nat → Prop} {v : RV} {r : ResD} (h : RV1 w S v r) : Res w S r (.agg #[.int .i64 v.st, .int .i64 v.id, .slice v.a1 v.n1 v.c1, .slice v.a2 v.n2 v.c2, .slice v.a3 v.n3 v.c3]) :=
  ⟨_, _, _, by rw [h.st, h.id], h.ps, h.os, h.is⟩
theorem RV1.of {w : World} {S : Nat → Prop} {r : ResD} {a1 a2 a3 : Option Addr} {d1 d2 d3 : Nat} (h : Res w S r (.agg #[.int .i64 r.st, .int .i64 r.id, .slice a1 r.ps.length d1, .slice a2 r.os.length d2, .slice a3 r.is.length d3])) : RV1 w S ⟨r.st, r.id, a1, r.ps.length, d1, a2, r.os.length, d2, a3, r.is.length, d3⟩ r := by
  obtain ⟨vp, vo, vi, e, h1, h2, h3⟩ := h
  simp only [Value.agg.injEq, Array.mk.injEq, List.cons.injEq, true_and, and_true] at e
  obtain ⟨rfl, rfl, rfl⟩ := e
  exact ⟨rfl, rfl, h1, h2, h3⟩
theorem RV1.mono {w : World} {S S' : Nat → Prop} {v : RV} {r : ResD} (h : RV1 w S v r) (hs : ∀ k, S k → k < w.heap.size → S' k) : RV1 w S' v r := ⟨h.st, h.id, h.ps.mono hs, h.os.mono hs, h.is.mono hs⟩
theorem RV1.move {w w' : World} {S : Nat → Prop} {v : RV} {r : ResD} (h : RV1 w S v r) (hs : Same S w w') : RV1 w' S v r := ⟨h.st, h.id, h.ps.move hs, h.os.move hs, h.is.move hs⟩
theorem RV1.zero (w : World) (S : Nat → Prop) : RV1 w S RV.zero ResD.nil := ⟨rfl, rfl, Row.nil _ _ _, Row.nil _ _ _, Row.nil _ _ _⟩
def RVs (w : World) (S : Nat → Prop) (vs : List RV) (rs : List ResD) : Prop := vs.length = rs.length ∧ ∀ (j : Nat) (v : RV) (r : ResD), vs[j]? = some v → rs[j]? = some r → RV1 w S v r
section
variable {w w' : World} {S S' : Nat → Prop} {vs : List RV} {rs : List ResD}
theorem RVs.nil (w : World) (S : Nat → Prop) : RVs w S [] [] := ⟨rfl, fun j v r h => by simp at h⟩
theorem RVs.mono (h : RVs w S vs rs) (hs : ∀ k, S k → k < w.heap.size → S' k) : RVs w S' vs rs := ⟨h.1, fun j v r h1 h2 => (h.2 j v r h1 h2).mono hs⟩
theorem RVs.move (h : RVs w S vs rs) (hs : Same S w w') : RVs w' S vs rs := ⟨h.1, fun j v r h1 h2 => (h.2 j v r h1 h2).move hs⟩
theorem RVs.below (h : RVs w S vs rs) (hb : Below w.heap.size w w') : RVs w' S vs rs := h.move (.of_below hb)
theorem RVs.bound (h : RVs w S vs rs) : RVs w (fun k => S k ∧ k < w.heap.size) vs rs := h.mono fun _ h1 h2 => ⟨h1, h2⟩
theorem RVs.snoc (h : RVs w S vs rs) {v : RV} {r : ResD} (hv : RV1 w S v r) : RVs w S (vs ++ [v]) (rs ++ [r]) := by
  refine ⟨by simp [h.1], fun j u s h1 h2 => ?_⟩
  rw [List.getElem?_append] at h1 h2
  split at h1
  · rw [if_pos (by rw [← h.1]; assumption)] at h2
    exact h.2 j u s h1 h2
  · rw [if_neg (by rw [← h.1]; assumption)] at h2
    rw [h.1] at h1
    obtain ⟨rfl, e1⟩ : v = u ∧ j - rs.length = 0 := by
      cases hj : j - rs.length with
      | zero => rw [hj] at h1; simp at h1; exact ⟨h1, rfl⟩
      | succ n => rw [hj] at h1; simp at h1
    rw [e1] at h2
    simp at h2
    subst h2
    exact hv
theorem RVs.zeros (w : World) (S : Nat → Prop) (n : Nat) : RVs w S (List.replicate n RV.zero) (List.replicate n ResD.nil) := by
  refine ⟨by simp, fun j v r h1 h2 => ?_⟩
  rw [List.getElem?_replicate] at h1 h2
  split at h1
  · rw [if_pos ‹_›] at h2
    injection h1 with h1
    injection h2 with h2
    subst h1 h2
    exact RV1.zero w S
  · cases h1
/-- One is set. -/
theorem RVs.put (h : RVs w S vs rs) {v : RV} {r : ResD} (hv : RV1 w S v r) (j : Nat) : RVs w S (vs.set j v) (rs.set j r) := by
  refine ⟨by simp [h.1], fun i u s h1 h2 => ?_⟩
  rw [List.getElem?_set] at h1 h2
  by_cases e : j = i
  · subst e
    rw [if_pos rfl] at h1 h2
    split at h1
    · rw [if_pos (by rw [← h.1]; assumption)] at h2
      injection h1 with h1
      injection h2 with h2
      subst h1 h2
      exact hv
    · cases h1
  · rw [if_neg e] at h1 h2
    exact h.2 i u s h1 h2
end
theorem put_next {xs : List ResD} {r : ResD} {m : Nat} : (xs ++ List.replicate (m + 1) ResD.nil).set xs.length r = (xs ++ [r]) ++ List.replicate m ResD.nil := by
  rw [List.set_append_right _ _ (Nat.le_refl _), Nat.sub_self, List.replicate_succ]
  simp
theorem Row.atRV {w : World} {S : Nat → Prop} {A : Option Addr} {n c : Nat} {xs : List RV} (h : Row tRV w S (.slice A n c) xs) {j : Nat} {x : RV} (hj : xs[j]? = some x) :
    ∃ b off, A = some ⟨b, off, none⟩ ∧ S b ∧ b < w.heap.size ∧ w.cell? ⟨b, off + j * 5, none⟩ = some (.int .i64 x.st) ∧ w.cell? ⟨b, off + j * 5 + 1, none⟩ = some (.int .i64 x.id) ∧ w.cell? ⟨b, off + j * 5 + 2, none⟩ = some (.slice x.a1 x.n1 x.c1) ∧ w.cell? ⟨b, off + j * 5 + 3, none⟩ = some (.slice x.a2 x.n2 x.c2) ∧ w.cell? ⟨b, off + j * 5 + 4, none⟩ = some (.slice x.a3 x.n3 x.c3) := by
  obtain ⟨b, off, cs, hA, hS, hl, hk, hr⟩ := h.at hj
  have hk' : cs = x.cells := hk
  subst hk'
  exact ⟨b, off, hA, hS, hl, hr 0 _ rfl, hr 1 _ rfl, hr 2 _ rfl, hr 3 _ rfl, hr 4 _ rfl⟩
theorem elemRes : ElemOf Try.prog 67 75 tRV.sz 88 (.agg #[.int .i64 0, .int .i64 0, .slice none 0 0, .slice none 0 0, .slice none 0 0]) := ⟨Try.underlying67, by kernel_rfl, rfl⟩
def zeroR : Array Value := #[.int .i64 0, .int .i64 0, .slice none 0 0, .slice none 0 0, .slice none 0 0]
theorem made_cell (n j i : Nat) (hi : i < 5) (hj : j < n) : (madeCells zeroR (n * 5)).toList[j * 5 + i]? = zeroR.toList[i]? := by
  have h1 : j * 5 + i < n * 5 := by omega
  have h2 : (j * 5 + i) % 5 = i := by omega
  rw [List.getElem?_eq_getElem (by simpa [madeCells] using h1), List.getElem?_eq_getElem (by simpa [zeroR] using hi)]
  simp only [madeCells, Array.getElem_toList, Array.getElem_map, Array.getElem_range]
  have h3 : zeroR.size = 5 := rfl
  rw [h3, h2]
  congr 1
  exact getElem!_pos zeroR i (by rw [h3]; exact hi)
theorem made_row (n j : Nat) (hj : j < n) : ((madeCells zeroR (n * 5)).toList.drop (j * 5)).take 5 = RV.zero.cells := by
  apply List.ext_getElem?
  intro i
  rw [List.getElem?_take]
  by_cases hi : i < 5
  · rw [if_pos hi, List.getElem?_drop, made_cell n j i hi hj]
    rfl
  · rw [if_neg hi]
    have : RV.zero.cells.length ≤ i := by show 5 ≤ i; omega
    rw [List.getElem?_eq_none this]
theorem Own.madeR {w : World} {n : Nat} (hn : n ≤ maxLen) (S : Nat → Prop) (hS : S w.heap.size) : Own tRV 75 (w.alloc (.cells (madeCells zeroR (n * 5)) 75)) S (.slice (some ⟨w.heap.size, 0, none⟩) n n) (List.replicate n RV.zero) := by
  refine ⟨fun k hk => by injection hk with hk; exact hk ▸ hS, (madeCells zeroR (n * 5)).toList, ?_, ?_⟩
  · refine ⟨by simp [tRV, Ty.flat, size_madeCells], .inr ⟨w.heap.size, n, _, by simp, Nat.zero_le _, heap_alloc_new w _, by simp, hn, by rw [size_madeCells]; rfl, ?_⟩⟩
    exact List.take_of_length_le (by simp [tRV, Ty.flat, size_madeCells])
  · intro j x hj
    rw [List.getElem?_replicate] at hj
    split at hj
    · injection hj with hj
      subst hj
      exact made_row n j ‹_›
    · cases hj
set_option maxRecDepth 100000 in
theorem makeR_run (W : World) (n : Nat) (hn : n ≤ 1000000) : (Instr.makeSlice 67 (.int .i64 (n : Int)) (.int .i64 (n : Int))).run Try.prog W = .ok (.slice (some ⟨W.heap.size, 0, none⟩) n n) (W.alloc (.cells (madeCells zeroR (n * 5)) 75)) := by
  obtain ⟨i, hi, hz⟩ := Option.map_eq_some_iff.1 elemRes.info
  injection hz with hz1 hz2
  injection hz2 with hz2 hz3
  have := run_make (P := Try.prog) W 67 75 i (.agg zeroR) elemRes.slice hi hz1 .i64 .i64 n n (by omega) (by omega) (by rw [hz3]; omega) (by omega)
  have e2 : (Value.agg zeroR).cells = zeroR := rfl
  have e1 : n * tRV.sz = n * 5 := rfl
  rw [hz2, Int.toNat_natCast, e1, e2] at this
  exact this
/-- One result is stored. -/
theorem Own.setR {w : World} {S : Nat → Prop} {g n c : Nat} {xs : List RV} (h : Own tRV 75 w S (.slice (some ⟨g, 0, none⟩) n c) xs) {p : Nat} (hp : p < xs.length) (v : RV) :
    Own tRV 75 (((((w.setCell ⟨g, p * 5 + 0, none⟩ (.int .i64 v.st)).setCell ⟨g, p * 5 + 1, none⟩ (.int .i64 v.id)).setCell ⟨g, p * 5 + 2, none⟩ (.slice v.a1 v.n1 v.c1)).setCell ⟨g, p * 5 + 3, none⟩ (.slice v.a2 v.n2 v.c2)).setCell ⟨g, p * 5 + 4, none⟩ (.slice v.a3 v.n3 v.c3)) S (.slice (some ⟨g, 0, none⟩) n c) (xs.set p v) := by
  have hy := List.getElem?_eq_getElem hp
  generalize xs[p] = y at hy
  have s : ∀ (l : List RV) (y : RV), p < l.length → (l.set p y)[p]? = some y := fun l y hl => by rw [List.getElem?_set, if_pos rfl, if_pos hl]
  have h0 := h.setFlat (p := p) (i := 0) (y := y) (y' := { y with st := v.st }) (u := .int .i64 v.st) hy (by decide) rfl
  have h1 := h0.setFlat (p := p) (i := 1) (y' := { y with st := v.st, id := v.id }) (u := .int .i64 v.id) (s _ _ hp) (by decide) rfl
  rw [List.set_set] at h1
  have h2 := h1.setFlat (p := p) (i := 2) (y' := { y with st := v.st, id := v.id, a1 := v.a1, n1 := v.n1, c1 := v.c1 }) (u := .slice v.a1 v.n1 v.c1) (s _ _ hp) (by decide) rfl
  rw [List.set_set] at h2
  have h3 := h2.setFlat (p := p) (i := 3) (y' := { y with st := v.st, id := v.id, a1 := v.a1, n1 := v.n1, c1 := v.c1, a2 := v.a2, n2 := v.n2, c2 := v.c2 }) (u := .slice v.a2 v.n2 v.c2) (s _ _ hp) (by decide) rfl
  rw [List.set_set] at h3
  have h4 := h3.setFlat (p := p) (i := 4) (y' := v) (u := .slice v.a3 v.n3 v.c3) (s _ _ hp) (by decide) rfl
  rw [List.set_set] at h4
  exact h4
end Go.Proofs.Ytpehmmdbjakkpaa
