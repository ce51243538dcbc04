/- What Fuse, Set and Del make of a graph: plain data; the law of Fuse. -/
import Derived.Test.YtpehmmdbjakkpaaGreatEdgeLaw
import Derived.Test.YtpehmmdbjakkpaaGreatGetM
namespace Go.Proofs.YtpehmmdbjakkpaaGreat
open Go.RowKit Go.Shelf
set_option linter.unusedSimpArgs false
set_option linter.unusedVariables false
/-- The property k is v: put in among the others. -/
def putP (ps : List P2) (k v : Int) : List P2 := (ps.filter fun p => decide (p.x < k)) ++ ⟨k, v⟩ :: (ps.filter fun p => decide (k < p.x))
def hasP (ps : List P2) (k : Int) : Bool := ps.any fun p => p.x == k
def delP (ps : List P2) (k : Int) : List P2 := ps.filter fun p => !(p.x == k)
def addP (l : List P2) (p : P2) : List P2 := if hasP l p.x then l else putP l p.x p.y
def fuseP (ps qs : List P2) : List P2 := qs.foldl addP ps
theorem hasP_iff {ps : List P2} {k : Int} : hasP ps k = true ↔ ∃ p ∈ ps, p.x = k := by simp [hasP]
theorem rises_iff {ps : List P2} : Rises ps ps.length ↔ ps.Pairwise (fun p q => p.x < q.x) := by
 constructor
 ·
  intro h
  rw [List.pairwise_iff_getElem]
  intro i j hi hj hij
  exact rises_lt h (j - i - 1) i _ _ (List.getElem?_eq_getElem hi) (by rw [show i + (j - i - 1) + 1 = j by omega]; exact List.getElem?_eq_getElem hj)
 ·
  intro h i p q hi hp hq
  rw [List.pairwise_iff_getElem] at h
  obtain ⟨h1, rfl⟩ := List.getElem?_eq_some_iff.1 hp
  obtain ⟨h2, rfl⟩ := List.getElem?_eq_some_iff.1 hq
  exact h i (i + 1) h1 h2 (by omega)
theorem putP_rises {ps : List P2} {k v : Int} (h : Rises ps ps.length) : Rises (putP ps k v) (putP ps k v).length := by
 rw [rises_iff] at h ⊢
 unfold putP
 rw [List.pairwise_append, List.pairwise_cons]
 refine ⟨h.filter _, ⟨?_, h.filter _⟩, ?_⟩
 ·
  intro q hq
  simpa using (List.mem_filter.1 hq).2
 ·
  intro p hp q hq
  have hp2 : p.x < k := by simpa using (List.mem_filter.1 hp).2
  rcases List.mem_cons.1 hq with rfl | hq
  ·
   exact hp2
  ·
   have hq2 : k < q.x := by simpa using (List.mem_filter.1 hq).2
   omega
theorem filter_split {ps : List P2} (c : P2 → Bool) (d : P2 → Bool) (hcd : ∀ p, c p = true → d p = false) : (ps.filter c).length + (ps.filter d).length ≤ ps.length := by
 induction ps with
 | nil => simp
 | cons p r ih =>
  rw [List.filter_cons, List.filter_cons]
  have := hcd p
  cases h1 : c p
  ·
   cases h2 : d p <;> simp <;> omega
  ·
   simp [this h1]; omega
theorem putP_len (ps : List P2) (k v : Int) : (putP ps k v).length ≤ ps.length + 1 := by
 unfold putP
 have := filter_split (ps := ps) (fun p => decide (p.x < k)) (fun p => decide (k < p.x)) (fun p h => by simp at h ⊢; omega)
 simp
 omega
theorem findAt_has {ps : List P2} {k : Int} {i : Nat} {b : Bool} (h : FindAt ps k i b) (hr : Rises ps ps.length) : b = hasP ps k := by
 rw [Bool.eq_iff_iff, h.is, hasP_iff]
 constructor
 ·
  rintro ⟨p, h1, h2⟩
  exact ⟨p, List.mem_of_getElem? h1, h2⟩
 ·
  rintro ⟨p, h1, h2⟩
  obtain ⟨m, hm⟩ := List.mem_iff_getElem?.1 h1
  have hmi : i ≤ m := by
   rcases Nat.lt_or_ge m i with h3 | h3
   ·
    have := h.lo m p h3 hm; omega
   ·
    exact h3
  rcases Nat.lt_or_ge i m with h3 | h3
  ·
   have hl := (List.getElem?_eq_some_iff.1 hm).1
   have h4 := h.hi i ps[i] (Nat.le_refl _) (List.getElem?_eq_getElem (by omega))
   have h5 := rises_lt hr (m - i - 1) i ps[i] p (List.getElem?_eq_getElem (by omega)) (by rw [show i + (m - i - 1) + 1 = m by omega]; exact hm)
   omega
  ·
   obtain rfl : m = i := by omega
   exact ⟨p, hm, h2⟩
theorem findAt_lo {ps : List P2} {k : Int} {i : Nat} {b : Bool} (h : FindAt ps k i b) : ps.filter (fun p => decide (p.x < k)) = ps.take i := by
 have e : ps = ps.take i ++ ps.drop i := (List.take_append_drop i ps).symm
 have e1 : (ps.take i).filter (fun p => decide (p.x < k)) = ps.take i := by
  rw [List.filter_eq_self]
  intro p hp
  obtain ⟨m, hm⟩ := List.mem_iff_getElem?.1 hp
  rw [List.getElem?_take] at hm
  split at hm
  ·
   rename_i hmi
   simpa using h.lo m p hmi hm
  ·
   cases hm
 have e2 : (ps.drop i).filter (fun p => decide (p.x < k)) = [] := by
  rw [List.filter_eq_nil_iff]
  intro p hp
  obtain ⟨m, hm⟩ := List.mem_iff_getElem?.1 hp
  rw [List.getElem?_drop] at hm
  have := h.hi _ p (Nat.le_add_right i m) hm
  simp
  omega
 have e3 : (ps.take i ++ ps.drop i).filter (fun p => decide (p.x < k)) = ps.take i := by rw [List.filter_append, e1, e2, List.append_nil]
 rwa [List.take_append_drop] at e3
theorem findAt_hi {ps : List P2} {k : Int} {i : Nat} {b : Bool} (h : FindAt ps k i b) (hr : Rises ps ps.length) : ps.filter (fun p => decide (k < p.x)) = ps.drop (if b then i + 1 else i) := by
 have hh := findAt_has h hr
 have e1 : ∀ j, (∀ (m : Nat) (p : P2), m < j → ps[m]? = some p → ¬ k < p.x) → (∀ (m : Nat) (p : P2), j ≤ m → ps[m]? = some p → k < p.x) → ps.filter (fun p => decide (k < p.x)) = ps.drop j := by
  intro j h1 h2
  have e2 : (ps.take j).filter (fun p => decide (k < p.x)) = [] := by
   rw [List.filter_eq_nil_iff]
   intro p hp
   obtain ⟨m, hm⟩ := List.mem_iff_getElem?.1 hp
   rw [List.getElem?_take] at hm
   split at hm
   ·
    rename_i hmi
    simpa using h1 m p hmi hm
   ·
    cases hm
  have e4 : (ps.drop j).filter (fun p => decide (k < p.x)) = ps.drop j := by
   rw [List.filter_eq_self]
   intro p hp
   obtain ⟨m, hm⟩ := List.mem_iff_getElem?.1 hp
   rw [List.getElem?_drop] at hm
   simpa using h2 _ p (Nat.le_add_right j m) hm
  have e3 : (ps.take j ++ ps.drop j).filter (fun p => decide (k < p.x)) = ps.drop j := by rw [List.filter_append, e2, e4, List.nil_append]
  rwa [List.take_append_drop] at e3
 cases b with
 | false =>
  refine e1 i (fun m p hm hp => by have := h.lo m p hm hp; omega) (fun m p hm hp => ?_)
  have h1 := h.hi m p hm hp
  have h2 : p.x ≠ k := fun e => by
   have := hasP_iff.2 ⟨p, List.mem_of_getElem? hp, e⟩
   rw [← hh] at this
   cases this
  omega
 | true =>
  obtain ⟨q, hq, hqk⟩ := h.is.1 rfl
  refine e1 (i + 1) (fun m p hm hp => ?_) (fun m p hm hp => ?_)
  ·
   rcases Nat.lt_or_ge m i with h3 | h3
   ·
    have := h.lo m p h3 hp; omega
   ·
    obtain rfl : m = i := by omega
    rw [hq] at hp
    injection hp with hp
    subst hp
    omega
  ·
   have h5 := rises_lt hr (m - i - 1) i q p hq (by rw [show i + (m - i - 1) + 1 = m by omega]; exact hp)
   omega
/-- Inserted where it would stand. -/
theorem put_insert {ps : List P2} {k : Int} {i : Nat} (v : Int) (h : FindAt ps k i false) (hr : Rises ps ps.length) : ps.take i ++ ⟨k, v⟩ :: ps.drop i = putP ps k v := by
 unfold putP
 rw [findAt_lo h, findAt_hi h hr]
 rfl
/-- Stored where it stands. -/
theorem put_set {ps : List P2} {k : Int} {i : Nat} (v : Int) (h : FindAt ps k i true) (hr : Rises ps ps.length) : ps.set i ⟨k, v⟩ = putP ps k v := by
 unfold putP
 rw [findAt_lo h, findAt_hi h hr]
 obtain ⟨q, hq, _⟩ := h.is.1 rfl
 rw [List.set_eq_take_append_cons_drop, if_pos (List.getElem?_eq_some_iff.1 hq).1]
 rfl
theorem del_erase {ps : List P2} {k : Int} {i : Nat} (h : FindAt ps k i true) (hr : Rises ps ps.length) : ps.take i ++ ps.drop (i + 1) = delP ps k := by
 obtain ⟨q, hq, hqk⟩ := h.is.1 rfl
 have hl := (List.getElem?_eq_some_iff.1 hq).1
 have e : ps = ps.take i ++ q :: ps.drop (i + 1) := by
  have e2 : ps[i] = q := (List.getElem?_eq_some_iff.1 hq).2
  rw [← e2, ← List.drop_eq_getElem_cons hl, List.take_append_drop]
 have lo := findAt_lo h
 have hi := findAt_hi h hr
 unfold delP
 have k1 : (ps.take i).filter (fun p => !(p.x == k)) = ps.take i := by
  rw [List.filter_eq_self, ← lo]
  intro p hp
  have := (List.mem_filter.1 hp).2
  simp at this ⊢
  omega
 have k2 : (ps.drop (i + 1)).filter (fun p => !(p.x == k)) = ps.drop (i + 1) := by
  simp at hi
  rw [List.filter_eq_self, ← hi]
  intro p hp
  have := (List.mem_filter.1 hp).2
  simp at this ⊢
  omega
 have k3 : (ps.take i ++ q :: ps.drop (i + 1)).filter (fun p => !(p.x == k)) = ps.take i ++ ps.drop (i + 1) := by
  rw [List.filter_append, List.filter_cons, k1, k2]
  simp [hqk]
 rw [← e] at k3
 exact k3.symm
theorem addP_rises {l : List P2} {p : P2} (h : Rises l l.length) : Rises (addP l p) (addP l p).length := by
 unfold addP
 split
 ·
  exact h
 ·
  exact putP_rises h
theorem addP_len (l : List P2) (p : P2) : (addP l p).length ≤ l.length + 1 := by
 unfold addP
 split
 ·
  omega
 ·
  exact putP_len _ _ _
theorem fuseP_rises : ∀ (qs ps : List P2), Rises ps ps.length → Rises (fuseP ps qs) (fuseP ps qs).length := by
 intro qs
 induction qs with
 | nil => intro ps h; exact h
 | cons q qs ih => intro ps h; exact ih _ (addP_rises h)
theorem fuseP_len : ∀ (qs ps : List P2), (fuseP ps qs).length ≤ ps.length + qs.length := by
 intro qs
 induction qs with
 | nil => intro ps; simp [fuseP]
 | cons q qs ih => intro ps; have h1 := ih (addP ps q); have h2 := addP_len ps q; simp [fuseP] at h1 ⊢; omega
theorem fuseP_take {ps qs : List P2} {k : Nat} {q : P2} (h : qs[k]? = some q) : fuseP ps (qs.take (k + 1)) = addP (fuseP ps (qs.take k)) q := by
 unfold fuseP
 rw [List.take_add_one, h, Option.toList_some, List.foldl_append]
 rfl
/-- A node's properties are others. -/
def setN (xs : List NodeD) (n : Int) (ps : List P2) : List NodeD := xs.set (atOf xs n).toNat ⟨n, ps⟩
theorem setN_ids (xs : List NodeD) (n : Int) (ps : List P2) (h : 0 ≤ atOf xs n) : (setN xs n ps).map NodeD.id = xs.map NodeD.id := by
 obtain ⟨i, x, hi, hx, hid⟩ := atOf_at (xs := xs) (n := n) (by omega)
 unfold setN
 rw [hi, Int.toNat_natCast]
 apply List.ext_getElem?
 intro j
 rw [List.getElem?_map, List.getElem?_map, List.getElem?_set]
 split
 ·
  rename_i e
  subst e
  rw [if_pos (List.getElem?_eq_some_iff.1 hx).1, hx]
  simp [hid]
 ·
  rfl
def fuseOf (g : GraphD) (a b : Int) : GraphD × Int :=
 if a = b then (GraphD.zero, 5) else if atOf g.nodes a < 0 ∨ atOf g.nodes b < 0 then (GraphD.zero, 2) else
 (⟨(setN g.nodes a (fuseP (getOf g a).1 (getOf g b).1)).filter (fun x => !(x.id == b)), g.edges.map (subE a b), g.nn, g.ne⟩, 0)
def setOf (g : GraphD) (n k v : Int) : GraphD × Int :=
 if atOf g.nodes n < 0 then (GraphD.zero, 2) else (⟨setN g.nodes n (putP (getOf g n).1 k v), g.edges, g.nn, g.ne⟩, 0)
def delOf (g : GraphD) (n k : Int) : GraphD × Int :=
 if hasP (getOf g n).1 k then (⟨setN g.nodes n (delP (getOf g n).1 k), g.edges, g.nn, g.ne⟩, 0) else (GraphD.zero, 2)
/-- Nodes whose numbers rise. -/
def Asc (xs : List NodeD) : Prop := (xs.map NodeD.id).Pairwise (· < ·)
theorem asc_of {xs : List NodeD} (h : AscBy NodeD.id xs) : Asc xs := by
 unfold Asc
 rw [List.pairwise_map, List.pairwise_iff_getElem]
 intro i j hi hj hij
 exact h i j _ _ hij (List.getElem?_eq_getElem hi) (List.getElem?_eq_getElem hj)
theorem Asc.by {xs : List NodeD} (h : Asc xs) : AscBy NodeD.id xs := by
 intro i j x y hij hx hy
 unfold Asc at h
 rw [List.pairwise_map, List.pairwise_iff_getElem] at h
 obtain ⟨h1, rfl⟩ := List.getElem?_eq_some_iff.1 hx
 obtain ⟨h2, rfl⟩ := List.getElem?_eq_some_iff.1 hy
 exact h i j h1 h2 hij
theorem Asc.filter {xs : List NodeD} (h : Asc xs) (p : NodeD → Bool) : Asc (xs.filter p) := by
 unfold Asc at h ⊢
 rw [List.pairwise_map] at h ⊢
 exact h.filter p
theorem Asc.setN {xs : List NodeD} {n : Int} {ps : List P2} (h : Asc xs) (hn : 0 ≤ atOf xs n) : Asc (setN xs n ps) := by
 unfold Asc at h ⊢
 rw [setN_ids xs n ps hn]
 exact h
theorem at_nonneg {xs : List NodeD} {n : Int} : 0 ≤ atOf xs n ↔ n ∈ xs.map NodeD.id := by
 constructor
 ·
  intro h
  obtain ⟨x, hx, rfl⟩ := at_mem h
  exact List.mem_map.2 ⟨x, hx, rfl⟩
 ·
  intro h
  obtain ⟨x, hx, rfl⟩ := List.mem_map.1 h
  obtain ⟨i, hi⟩ := List.mem_iff_getElem?.1 hx
  exact at_of_mem hi
theorem has_iff {g : GraphD} {n k : Int} : Has g n k ↔ hasP (getOf g n).1 k = true := by
 rw [hasP_iff]
 constructor
 ·
  rintro ⟨i, x, p, h1, h2, h3, h4⟩
  exact ⟨p, by rw [getOf_some h1 h2]; exact h3, h4⟩
 ·
  rintro ⟨p, hp, hk⟩
  by_cases ha : atOf g.nodes n < 0
  ·
   rw [getOf_none ha] at hp
   cases hp
  ·
   obtain ⟨i, x, hi, hx, _⟩ := atOf_at ha
   rw [getOf_some hi hx] at hp
   exact ⟨i, x, p, hi, hx, hp, hk⟩
end Go.Proofs.YtpehmmdbjakkpaaGreat
