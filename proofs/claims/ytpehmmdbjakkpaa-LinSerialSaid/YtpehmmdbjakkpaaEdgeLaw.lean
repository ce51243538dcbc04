/- An edge is seen from both its ends, and from no other node: in plain data. -/
import Derived.Test.YtpehmmdbjakkpaaRefCheck
namespace Go.Proofs.Ytpehmmdbjakkpaa
open Go.RowKit Go.Shelf
set_option linter.unusedSimpArgs false
set_option linter.unusedVariables false
theorem asc_edges {g : GraphD} (h : EdgesOk g g.edges.length) : ∀ (d i : Nat) (e f : EdgeD), g.edges[i]? = some e → g.edges[i + d + 1]? = some f → e.id < f.id := by
  intro d
  induction d with
  | zero =>
    intro i e f he hf
    have h1 := (h (i + 1) f (List.getElem?_eq_some_iff.1 hf).1 hf).1
    rw [lastE_succ he] at h1
    exact h1
  | succ d ih =>
    intro i e f he hf
    have hl : i + d + 1 < g.edges.length := by have := (List.getElem?_eq_some_iff.1 hf).1; omega
    have h1 := ih i e _ he (List.getElem?_eq_getElem hl)
    have h2 := (h (i + d + 1 + 1) f (List.getElem?_eq_some_iff.1 hf).1 hf).1
    rw [lastE_succ (List.getElem?_eq_getElem hl)] at h2
    omega
theorem asc_nodes {g : GraphD} (h : NodesOk g g.nodes.length) : ∀ (d i : Nat) (e f : NodeD), g.nodes[i]? = some e → g.nodes[i + d + 1]? = some f → e.id < f.id := by
  intro d
  induction d with
  | zero =>
    intro i e f he hf
    have h1 := (h (i + 1) f (List.getElem?_eq_some_iff.1 hf).1 hf).1
    rw [lastN_succ he] at h1
    exact h1
  | succ d ih =>
    intro i e f he hf
    have hl : i + d + 1 < g.nodes.length := by have := (List.getElem?_eq_some_iff.1 hf).1; omega
    have h1 := ih i e _ he (List.getElem?_eq_getElem hl)
    have h2 := (h (i + d + 1 + 1) f (List.getElem?_eq_some_iff.1 hf).1 hf).1
    rw [lastN_succ (List.getElem?_eq_getElem hl)] at h2
    omega
/-- Things that rise by their numbers. -/
def AscBy {α : Type} (f : α → Int) (l : List α) : Prop := ∀ (i j : Nat) (x y : α), i < j → l[i]? = some x → l[j]? = some y → f x < f y
theorem AscBy.tail {α : Type} {f : α → Int} {a : α} {l : List α} (h : AscBy f (a :: l)) : AscBy f l := fun i j x y hij hx hy => h (i + 1) (j + 1) x y (by omega) (by simpa using hx) (by simpa using hy)
theorem AscBy.head {α : Type} {f : α → Int} {a x : α} {l : List α} (h : AscBy f (a :: l)) (hx : x ∈ l) : f a < f x := by
  obtain ⟨i, hi⟩ := List.mem_iff_getElem?.1 hx
  exact h 0 (i + 1) a x (by omega) rfl (by simpa using hi)
theorem ascE {g : GraphD} (h : EdgesOk g g.edges.length) : AscBy EdgeD.id g.edges := fun i j x y hij hx hy => asc_edges h (j - i - 1) i x y hx (by rw [show i + (j - i - 1) + 1 = j by omega]; exact hy)
theorem ascN {g : GraphD} (h : NodesOk g g.nodes.length) : AscBy NodeD.id g.nodes := fun i j x y hij hx hy => asc_nodes h (j - i - 1) i x y hx (by rw [show i + (j - i - 1) + 1 = j by omega]; exact hy)
def cntE (l : List EdgeD) (e : EdgeD) : Nat := (l.filter fun y => decide (y = e)).length
theorem cntE_succ {l : List EdgeD} {k : Nat} {x : EdgeD} (h : l[k]? = some x) (e : EdgeD) : cntE (l.take (k + 1)) e = cntE (l.take k) e + (if x = e then 1 else 0) := by
  unfold cntE
  rw [List.take_add_one, h, Option.toList_some, List.filter_append, List.length_append]
  by_cases hq : x = e <;> simp [hq]
theorem cntE_le (l : List EdgeD) (e : EdgeD) (k : Nat) : cntE (l.take k) e ≤ k := by
  unfold cntE
  have h1 := List.length_filter_le (fun y : EdgeD => decide (y = e)) (l.take k)
  rw [List.length_take] at h1
  omega
theorem cntE_zero {l : List EdgeD} {e : EdgeD} (h : ∀ x ∈ l, x ≠ e) : cntE l e = 0 := by
  unfold cntE
  rw [List.filter_eq_nil_iff.2 (fun x hx => by simp [h x hx])]
  rfl
theorem cntE_one : ∀ (l : List EdgeD), AscBy EdgeD.id l → ∀ e ∈ l, cntE l e = 1 := by
  intro l
  induction l with
  | nil => intro _ e he; cases he
  | cons a l ih =>
    intro h e he
    have hc : cntE (a :: l) e = (if a = e then 1 else 0) + cntE l e := by
      unfold cntE
      by_cases hq : a = e
      · simp [hq]; omega
      · simp [hq]
    rw [hc]
    rcases List.mem_cons.1 he with rfl | he
    · rw [if_pos rfl, cntE_zero (fun x hx hxe => by have := h.head hx; rw [hxe] at this; omega)]
    · rw [if_neg (fun e2 => by have := h.head he; rw [e2] at this; omega), ih h.tail e he]
def cntN (l : List NodeD) (n : Int) : Nat := (l.filter fun x => x.id == n).length
theorem cntN_one : ∀ (l : List NodeD), AscBy NodeD.id l → ∀ n, (∃ x ∈ l, x.id = n) → cntN l n = 1 := by
  intro l
  induction l with
  | nil => rintro _ n ⟨x, hx, _⟩; cases hx
  | cons a l ih =>
    rintro h n ⟨x, hx, rfl⟩
    have hc : cntN (a :: l) x.id = (if a.id = x.id then 1 else 0) + cntN l x.id := by
      unfold cntN
      by_cases hq : a.id = x.id
      · simp [hq]; omega
      · simp [hq]
    rw [hc]
    rcases List.mem_cons.1 hx with rfl | hx
    · rw [if_pos rfl]
      have : cntN l x.id = 0 := by
        unfold cntN
        rw [List.filter_eq_nil_iff.2 (fun y hy => by have := h.head hy; simp; omega)]
        rfl
      omega
    · rw [if_neg (fun e2 => by have := h.head hx; omega), ih h.tail _ ⟨x, hx, rfl⟩]
theorem at_mem {xs : List NodeD} {n : Int} (h : 0 ≤ atOf xs n) : ∃ x ∈ xs, x.id = n := by
  rcases idxB_cases (fun x : NodeD => x.id == n) xs with ⟨e, _⟩ | ⟨k, x, _, hx, hp, _⟩
  · unfold atOf at h; rw [e] at h; omega
  · exact ⟨x, List.mem_of_getElem? hx, by simpa using hp⟩
theorem at_of_mem {xs : List NodeD} {i : Nat} {x : NodeD} (h : xs[i]? = some x) : 0 ≤ atOf xs x.id := by
  rcases idxB_cases (fun y : NodeD => y.id == x.id) xs with ⟨e, hno⟩ | ⟨k, y, e, _, _, _⟩
  · have := hno i x h; simp at this
  · unfold atOf; rw [e]; omega
def osum (xs : List NodeD) (l : List EdgeD) : Nat := (xs.map fun x => (nearO l x.id).length).sum
def isum (xs : List NodeD) (l : List EdgeD) : Nat := (xs.map fun x => (nearI l x.id).length).sum
theorem osum_succ {xs : List NodeD} {k : Nat} {x : NodeD} (h : xs[k]? = some x) (l : List EdgeD) : osum (xs.take (k + 1)) l = osum (xs.take k) l + (nearO l x.id).length := by
  unfold osum; rw [List.take_add_one, h]; simp
theorem isum_succ {xs : List NodeD} {k : Nat} {x : NodeD} (h : xs[k]? = some x) (l : List EdgeD) : isum (xs.take (k + 1)) l = isum (xs.take k) l + (nearI l x.id).length := by
  unfold isum; rw [List.take_add_one, h]; simp
theorem nearO_cons (e : EdgeD) (l : List EdgeD) (n : Int) : (nearO (e :: l) n).length = (nearO l n).length + (if e.frm = n then 1 else 0) := by
  unfold nearO
  by_cases h : e.frm = n <;> simp [List.filter_cons, h]
theorem nearI_cons (e : EdgeD) (l : List EdgeD) (n : Int) : (nearI (e :: l) n).length = (nearI l n).length + (if e.to = n then 1 else 0) := by
  unfold nearI
  by_cases h : e.to = n <;> simp [List.filter_cons, h]
theorem cntN_cons (x : NodeD) (xs : List NodeD) (n : Int) : cntN (x :: xs) n = cntN xs n + (if x.id = n then 1 else 0) := by
  unfold cntN
  by_cases h : x.id = n <;> simp [List.filter_cons, h]
theorem osum_node (x : NodeD) (xs : List NodeD) (l : List EdgeD) : osum (x :: xs) l = (nearO l x.id).length + osum xs l := by simp [osum]
theorem isum_node (x : NodeD) (xs : List NodeD) (l : List EdgeD) : isum (x :: xs) l = (nearI l x.id).length + isum xs l := by simp [isum]
theorem ite_comm' {a b : Int} : (if a = b then 1 else 0 : Nat) = (if b = a then 1 else 0) := by
  by_cases h : a = b
  · rw [if_pos h, if_pos h.symm]
  · rw [if_neg h, if_neg (fun e => h e.symm)]
theorem osum_cons (xs : List NodeD) (e : EdgeD) (l : List EdgeD) : osum xs (e :: l) = osum xs l + cntN xs e.frm := by
  induction xs with
  | nil => rfl
  | cons x xs ih =>
    rw [osum_node, osum_node, cntN_cons, nearO_cons, ih, ite_comm' (a := e.frm)]
    omega
theorem isum_cons (xs : List NodeD) (e : EdgeD) (l : List EdgeD) : isum xs (e :: l) = isum xs l + cntN xs e.to := by
  induction xs with
  | nil => rfl
  | cons x xs ih =>
    rw [isum_node, isum_node, cntN_cons, nearI_cons, ih, ite_comm' (a := e.to)]
    omega
theorem osum_nil (xs : List NodeD) : osum xs [] = 0 := by
  induction xs with
  | nil => rfl
  | cons x xs ih => rw [osum_node, ih]; rfl
theorem isum_nil (xs : List NodeD) : isum xs [] = 0 := by
  induction xs with
  | nil => rfl
  | cons x xs ih => rw [isum_node, ih]; rfl
theorem osum_all {xs : List NodeD} (ha : AscBy NodeD.id xs) : ∀ (l : List EdgeD), (∀ e ∈ l, ∃ x ∈ xs, x.id = e.frm) → osum xs l = l.length := by
  intro l
  induction l with
  | nil => intro _; rw [osum_nil]; rfl
  | cons e l ih =>
    intro h
    rw [osum_cons, ih (fun e' he' => h e' (List.mem_cons_of_mem _ he')), cntN_one xs ha _ (h e (List.mem_cons_self ..))]
    rfl
theorem isum_all {xs : List NodeD} (ha : AscBy NodeD.id xs) : ∀ (l : List EdgeD), (∀ e ∈ l, ∃ x ∈ xs, x.id = e.to) → isum xs l = l.length := by
  intro l
  induction l with
  | nil => intro _; rw [isum_nil]; rfl
  | cons e l ih =>
    intro h
    rw [isum_cons, ih (fun e' he' => h e' (List.mem_cons_of_mem _ he')), cntN_one xs ha _ (h e (List.mem_cons_self ..))]
    rfl
theorem MayG.outs {c : CfgD} {g : GraphD} (h : MayG c g) : osum g.nodes g.edges = g.edges.length := osum_all (ascN h.nodes) _ fun e he => by
  obtain ⟨i, hi⟩ := List.mem_iff_getElem?.1 he
  exact at_mem (h.edges i e (List.getElem?_eq_some_iff.1 hi).1 hi).2.2.1
theorem MayG.ins {c : CfgD} {g : GraphD} (h : MayG c g) : isum g.nodes g.edges = g.edges.length := isum_all (ascN h.nodes) _ fun e he => by
  obtain ⟨i, hi⟩ := List.mem_iff_getElem?.1 he
  exact at_mem (h.edges i e (List.getElem?_eq_some_iff.1 hi).1 hi).2.2.2
theorem MayG.metO {c : CfgD} {g : GraphD} (h : MayG c g) {n : Int} {j : Nat} {y : P2} (hy : (nearO g.edges n)[j]? = some y) : cntE g.edges ⟨y.x, n, y.y⟩ = 1 := by
  have hm := List.mem_of_getElem? hy
  unfold nearO at hm
  obtain ⟨e, he, rfl⟩ := List.mem_map.1 hm
  obtain ⟨he1, he2⟩ := List.mem_filter.1 he
  have : n = e.frm := (by simpa using he2 : e.frm = n).symm
  subst this
  exact cntE_one _ (ascE h.edges) e he1
theorem MayG.metI {c : CfgD} {g : GraphD} (h : MayG c g) {n : Int} {j : Nat} {y : P2} (hy : (nearI g.edges n)[j]? = some y) : cntE g.edges ⟨y.x, y.y, n⟩ = 1 := by
  have hm := List.mem_of_getElem? hy
  unfold nearI at hm
  obtain ⟨e, he, rfl⟩ := List.mem_map.1 hm
  obtain ⟨he1, he2⟩ := List.mem_filter.1 he
  have : n = e.to := (by simpa using he2 : e.to = n).symm
  subst this
  exact cntE_one _ (ascE h.edges) e he1
theorem osum_le {xs : List NodeD} {l : List EdgeD} (hl : l.length ≤ 100) (k : Nat) : osum (xs.take k) l ≤ 100 * k := by
  induction k with
  | zero => simp [osum]
  | succ k ih =>
    cases hx : xs[k]? with
    | none =>
      have h1 : xs.take (k + 1) = xs.take k := by rw [List.take_add_one, hx]; simp
      rw [h1]; omega
    | some x =>
      rw [osum_succ hx]
      have h1 : (nearO l x.id).length ≤ l.length := by have := nearO_len l l.length x.id; rwa [List.take_length] at this
      omega
theorem isum_le {xs : List NodeD} {l : List EdgeD} (hl : l.length ≤ 100) (k : Nat) : isum (xs.take k) l ≤ 100 * k := by
  induction k with
  | zero => simp [isum]
  | succ k ih =>
    cases hx : xs[k]? with
    | none =>
      have h1 : xs.take (k + 1) = xs.take k := by rw [List.take_add_one, hx]; simp
      rw [h1]; omega
    | some x =>
      rw [isum_succ hx]
      have h1 : (nearI l x.id).length ≤ l.length := by have := nearI_len l l.length x.id; rwa [List.take_length] at this
      omega
end Go.Proofs.Ytpehmmdbjakkpaa
