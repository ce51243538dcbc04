/- Lemmas about memory: what a slice's cells say (Row), what the call itself owns (Own), and how both outlive steps that turn other blocks. -/
import Derived.WalkKit
import Derived.RowKit
import Derived.Lib.Hide
import Derived.Deep.MidRow
import Derived.Deep.AppendLies
import Derived.Deep.Draws
import Derived.OwnWalkIn
namespace Go.Proofs.Ytpehmmdbjakkpaa
open Go.RowKit

/-- The blocks of S that w has are in w' as they were. -/
def Same (S : Nat → Prop) (w w' : World) : Prop := ∀ k, S k → k < w.heap.size → w'.heap[k]? = w.heap[k]?
theorem Same.refl (S : Nat → Prop) (w : World) : Same S w w := fun _ _ _ => rfl
theorem Same.mono {S S' : Nat → Prop} {w w' : World} (h : Same S w w') (hs : ∀ k, S' k → S k) : Same S' w w' := fun k hk hl => h k (hs k hk) hl
theorem Same.of_below {S : Nat → Prop} {w w' : World} (h : Below w.heap.size w w') : Same S w w' := fun k _ hl => h.block k hl
theorem Same.of_below' {S : Nat → Prop} {n : Nat} {w w' : World} (h : Below n w w') (hs : ∀ k, S k → k < n) : Same S w w' := fun k hk _ => h.block k (hs k hk)
theorem Same.of_grown {S : Nat → Prop} {row : Option Nat} {w w' : World} (h : w.grownBy w' row) (hs : ∀ k, S k → some k ≠ row) : Same S w w' := fun k hk hl => h.block k hl (hs k hk)
theorem Same.of_setCell {S : Nat → Prop} (w : World) (p : Addr) (u : Value) (hs : ∀ k, S k → k ≠ p.block) : Same S w (w.setCell p u) := fun k hk _ => Below.heap_setCell w p u k (hs k hk)
theorem Same.of_alloc (S : Nat → Prop) (w : World) (o : Obj) : Same S w (w.alloc o) := fun k _ hl => Below.heap_alloc w o k hl
theorem Same.of_drew (S : Nat → Prop) (w : World) : Same S w w.drew := fun _ _ _ => rfl
theorem Same.of_drewN (S : Nat → Prop) (w : World) (n : Nat) : Same S w (w.drewN n) := fun _ _ _ => rfl
theorem Same.trans {S : Nat → Prop} {a b c : World} (h : Same S a b) (hs : a.heap.size ≤ b.heap.size) (k : Same S b c) : Same S a c := fun i hi hl => (k i hi (Nat.lt_of_lt_of_le hl hs)).trans (h i hi hl)
theorem heap_lt {w : World} {b : Nat} {o : Obj} (h : w.heap[b]? = some o) : b < w.heap.size := (Array.getElem?_eq_some_iff.1 h).1
theorem Same.cell {S : Nat → Prop} {w w' : World} (h : Same S w w') {a : Addr} {v : Value} (hs : S a.block) (hc : w.cell? a = some v) : w'.cell? a = some v := by
  rw [World.cell?_of_block (w := w) (h _ hs (block_lt_of_cell hc))]; exact hc
theorem Same.range {S : Nat → Prop} {w w' : World} (h : Same S w w') {b o : Nat} {cs : List Value} (hs : S b) (hc : w.rangeAt b o cs) : w'.rangeAt b o cs := fun j v hv => h.cell (a := ⟨b, o + j, none⟩) hs (hc j v hv)
theorem Same.block {S : Nat → Prop} {w w' : World} (h : Same S w w') {b : Nat} {o : Obj} (hs : S b) (hb : w.heap[b]? = some o) : w'.heap[b]? = some o := (h b hs (heap_lt hb)).trans hb

/-- A kind of elements: how many cells each has, and what they say, in blocks of S. -/
structure Ty (α : Type) where
  sz : Nat
  pos : 0 < sz
  K : World → (Nat → Prop) → α → List Value → Prop
  len : ∀ {w S x cs}, K w S x cs → cs.length = sz
  one : ∀ {w S x cs}, K w S x cs → ∀ u ∈ cs, u.oneCell' = true
  mono : ∀ {w S S' x cs}, (∀ k, S k → k < w.heap.size → S' k) → K w S x cs → K w S' x cs
  move : ∀ {w w' S x cs}, Same S w w' → K w S x cs → K w' S x cs

/-- Elements whose cells hang on nothing else. -/
def Ty.flat {α : Type} (sz : Nat) (pos : 0 < sz) (enc : α → List Value) (hl : ∀ x, (enc x).length = sz) (h1 : ∀ x, ∀ u ∈ enc x, u.oneCell' = true) : Ty α where
  sz := sz
  pos := pos
  K := fun _ _ x cs => cs = enc x
  len := fun h => by rw [h]; exact hl _
  one := fun h => by rw [h]; exact h1 _
  mono := fun _ h => h
  move := fun _ h => h

/-- The slice value v reads as xs. -/
def Row {α : Type} (t : Ty α) (w : World) (S : Nat → Prop) (v : Value) (xs : List α) : Prop :=
  ∃ A c, v = .slice A xs.length c ∧ xs.length ≤ c ∧ c ≤ maxLen ∧ (A = none → c = 0) ∧ (xs = [] ∨ ∃ b off, A = some ⟨b, off, none⟩ ∧ S b ∧ b < w.heap.size ∧ ∀ j x, xs[j]? = some x → ∃ cs, t.K w S x cs ∧ w.rangeAt b (off + j * t.sz) cs)
section
variable {α : Type} {t : Ty α} {w w' : World} {S S' : Nat → Prop} {v : Value} {xs : List α}
theorem Row.nil (t : Ty α) (w : World) (S : Nat → Prop) : Row t w S (.slice none 0 0) [] := ⟨none, 0, rfl, Nat.le_refl _, Nat.zero_le _, fun _ => rfl, .inl rfl⟩
theorem Row.mono (h : Row t w S v xs) (hs : ∀ k, S k → k < w.heap.size → S' k) : Row t w S' v xs := by
  obtain ⟨A, c, hv, hc, hm, hA0, h⟩ := h
  refine ⟨A, c, hv, hc, hm, hA0, h.imp id ?_⟩
  rintro ⟨b, off, hA, hb, hl, he⟩
  refine ⟨b, off, hA, hs b hb hl, hl, fun j x hj => ?_⟩
  obtain ⟨cs, hk, hr⟩ := he j x hj
  exact ⟨cs, t.mono hs hk, hr⟩
theorem Row.move (h : Row t w S v xs) (hs : Same S w w') : Row t w' S v xs := by
  obtain ⟨A, c, hv, hc, hm, hA0, h⟩ := h
  refine ⟨A, c, hv, hc, hm, hA0, ?_⟩
  rcases xs with _ | ⟨x0, xs⟩
  · exact .inl rfl
  · right
    obtain ⟨b, off, hA, hb, hl, he⟩ := h.resolve_left (by simp)
    refine ⟨b, off, hA, hb, ?_, fun j x hj => ?_⟩
    · have h1 := hs b hb hl
      obtain ⟨o, ho⟩ : ∃ o, w.heap[b]? = some o := ⟨_, Array.getElem?_eq_getElem hl⟩
      exact heap_lt (h1.trans ho)
    · obtain ⟨cs, hk, hr⟩ := he j x hj
      exact ⟨cs, t.move hs hk, hs.range hb hr⟩
theorem Row.below (h : Row t w S v xs) (hb : Below w.heap.size w w') : Row t w' S v xs := h.move (.of_below hb)
theorem Row.bound (h : Row t w S v xs) : Row t w (fun k => S k ∧ k < w.heap.size) v xs := h.mono fun _ hk hl => ⟨hk, hl⟩
theorem Row.len (h : Row t w S v xs) : xs.length ≤ maxLen := by
  obtain ⟨A, c, hv, hc, hm, hA0, h⟩ := h
  omega
theorem Row.slice (h : Row t w S v xs) : ∃ A c, v = .slice A xs.length c := by
  obtain ⟨A, c, hv, _⟩ := h
  exact ⟨A, c, hv⟩
theorem Row.empty (h : Row t w S v xs) (h0 : xs = []) (S' : Nat → Prop) (w' : World) : Row t w' S' v xs := by
  obtain ⟨A, c, hv, hc, hm, hA0, h⟩ := h
  exact ⟨A, c, hv, hc, hm, hA0, .inl h0⟩
/-- Not empty: its address, and its elements' cells. -/
theorem Row.get (h : Row t w S v xs) (hn : 0 < xs.length) : ∃ b off c, v = .slice (some ⟨b, off, none⟩) xs.length c ∧ xs.length ≤ c ∧ S b ∧ b < w.heap.size ∧ ∀ j x, xs[j]? = some x → ∃ cs, t.K w S x cs ∧ w.rangeAt b (off + j * t.sz) cs := by
  obtain ⟨A, c, hv, hc, hm, hA0, h⟩ := h
  obtain ⟨b, off, rfl, hb, hl, he⟩ := h.resolve_left (by rintro rfl; simp at hn)
  exact ⟨b, off, c, hv, hc, hb, hl, he⟩
end

/-- v is nil, or lies at the head of a block of S that the call itself made, and may be written; the elements lie in other blocks of S. -/
def Own {α : Type} (t : Ty α) (e : TypeId) (w : World) (S : Nat → Prop) (v : Value) (xs : List α) : Prop :=
  (∀ k, v.ownBlock = some k → S k) ∧ ∃ inner, w.ownsRow 0 e t.sz v xs.length inner ∧ ∀ j x, xs[j]? = some x → t.K w (fun k => S k ∧ v.ownBlock ≠ some k) x ((inner.drop (j * t.sz)).take t.sz)
section
variable {α : Type} {t : Ty α} {e : TypeId} {w w' : World} {S S' : Nat → Prop} {v : Value} {xs : List α}
theorem Own.nil (t : Ty α) (e : TypeId) (w : World) (S : Nat → Prop) : Own t e w S (.slice none 0 0) [] := ⟨fun k h => by simp [Value.ownBlock] at h, [], World.ownsRow_nil _ _ _ _, fun j x h => by simp at h⟩
theorem Own.slice (h : Own t e w S v xs) : ∃ A c, v = .slice A xs.length c := by
  obtain ⟨_, inner, ho, _⟩ := h
  rcases ho.2 with ⟨rfl, h0⟩ | ⟨g, cap, cur, rfl, _⟩
  · exact ⟨none, 0, by rw [h0]⟩
  · exact ⟨_, cap, rfl⟩
theorem Own.lt (h : Own t e w S v xs) : ∀ k, v.ownBlock = some k → k < w.heap.size := fun k hk => by
  obtain ⟨_, inner, ho, _⟩ := h
  exact (ho.lt k hk).2
theorem Own.mono (h : Own t e w S v xs) (hs : ∀ k, S k → k < w.heap.size → S' k) : Own t e w S' v xs := by
  have hlt := h.lt
  obtain ⟨hS, inner, ho, hk⟩ := h
  exact ⟨fun k h => hs k (hS k h) (hlt k h), inner, ho, fun j x hj => t.mono (fun k hk hl => ⟨hs k hk.1 hl, hk.2⟩) (hk j x hj)⟩
theorem ownsRow_same {base : Nat} {size n : Nat} {inner : List Value} (h : w.ownsRow base e size v n inner) (hs : ∀ k, v.ownBlock = some k → w'.heap[k]? = w.heap[k]?) : w'.ownsRow base e size v n inner := by
  obtain ⟨h1, h2⟩ := h
  refine ⟨h1, ?_⟩
  rcases h2 with h2 | ⟨g, cap, cur, rfl, hg, hh, r⟩
  · exact .inl h2
  · exact .inr ⟨g, cap, cur, rfl, hg, (hs g (by simp [Value.ownBlock])).trans hh, r⟩
theorem Own.move (h : Own t e w S v xs) (hs : Same S w w') : Own t e w' S v xs := by
  have hlt := h.lt
  obtain ⟨hS, inner, ho, hk⟩ := h
  exact ⟨hS, inner, ownsRow_same ho (fun k hk => hs k (hS k hk) (hlt k hk)), fun j x hj => t.move (hs.mono fun k hk => hk.1) (hk j x hj)⟩
theorem Own.below (h : Own t e w S v xs) (hb : Below w.heap.size w w') : Own t e w' S v xs := h.move (.of_below hb)
theorem Own.bound (h : Own t e w S v xs) : Own t e w (fun k => S k ∧ k < w.heap.size) v xs := h.mono fun _ hk hl => ⟨hk, hl⟩
/-- What is owned is read. -/
theorem Own.row (h : Own t e w S v xs) : Row t w S v xs := by
  have hlt := h.lt
  obtain ⟨hS, inner, ho, hk⟩ := h
  have hlen := ho.1
  rcases ho.2 with ⟨rfl, h0⟩ | ⟨g, cap, cur, rfl, _, hh, h1, h2, h3, h4⟩
  · obtain rfl : xs = [] := List.eq_nil_of_length_eq_zero h0
    exact Row.nil _ _ _
  · refine ⟨_, cap, rfl, h1, h2, by simp, ?_⟩
    right
    refine ⟨g, 0, rfl, hS g (by simp [Value.ownBlock]), heap_lt hh, fun j x hj => ⟨_, t.mono (fun _ hk _ => hk.1) (hk j x hj), fun i u hu => ?_⟩⟩
    rw [List.getElem?_take] at hu
    split at hu
    · rw [List.getElem?_drop] at hu
      have hc := ho.cells (g := g) (by simp [Value.ownBlock]) _ u hu
      rw [Addr.add_mid] at hc
      simpa [Nat.add_assoc] using hc
    · cases hu
end
/-- An element's type: its row of the program's table, and the slice type's. -/
structure ElemOf (P : Program) (t e : TypeId) (sz bytes : Nat) (z : Value) : Prop where
  slice : P.underlying t = some (.slice e)
  info : (P.info? e).map (fun i => (i.zero, i.size, i.bytes)) = some (some z, sz, bytes)
  zero : z.cells.size = sz
section
variable {α : Type} {ty : Ty α} {P : Program}
/-- append(v, ys...), run: v nil or the call's own. -/
theorem own_append_run {W : World} {S Sy : Nat → Prop} {v : Value} {xs ys : List α} (t e : TypeId) (oty : TypeId) (bytes : Nat) (z : Value) (he : ElemOf P t e ty.sz bytes z)
    (hown : Own ty e W S v xs) (A : Option Addr) (m c : Nat) (hy : Row ty W Sy (.slice A m c) ys)
    (hm : m = ys.length) (hbytes : (xs.length + ys.length) * bytes ≤ 140737488355328) (hlen : xs.length + ys.length ≤ maxLen) (hnew : S W.heap.size) (hin : ∀ k, Sy k → k < W.heap.size → S k ∧ v.ownBlock ≠ some k) :
    ∃ v' w', (Builtin.append_ #[t, t] oty #[v, .slice A m c]).run P W = .ok v' w' ∧ Own ty e w' S v' (xs ++ ys) ∧ W.grownBy w' v.ownBlock ∧ (v'.ownBlock = v.ownBlock ∨ v'.ownBlock = some W.heap.size) := by
  obtain ⟨i0, hi, hzz⟩ := Option.map_eq_some_iff.1 he.info
  simp only [Prod.mk.injEq] at hzz
  obtain ⟨hz0, hz1, hz2⟩ := hzz
  have hlt := hown.lt
  obtain ⟨hS, inner, hor, hk⟩ := hown
  -- the cells that are appended
  have hcells : ∃ news : List Value, news.length = m * ty.sz ∧ (∀ u ∈ news, u.oneCell' = true) ∧ (m = 0 ∧ news = [] ∨ ∃ ad, A = some ad ∧ ∀ j u, news[j]? = some u → W.cell? (ad.add j) = some u) ∧
      ∀ j y, ys[j]? = some y → ty.K W Sy y ((news.drop (j * ty.sz)).take ty.sz) := by
    obtain ⟨A', c', hv, hc, hmm, hA0, hy⟩ := hy
    injection hv with h1 h2 h3
    subst h1 h2 h3
    rcases hy with rfl | ⟨b, off, rfl, hb, hl, hel⟩
    · exact ⟨[], by simp, by simp, .inl ⟨rfl, rfl⟩, fun j y hj => by simp at hj⟩
    · have hch : ∀ n, n ≤ ys.length → ∃ news : List Value, news.length = n * ty.sz ∧ (∀ u ∈ news, u.oneCell' = true) ∧ W.rangeAt b off news ∧ ∀ j y, j < n → ys[j]? = some y → ty.K W Sy y ((news.drop (j * ty.sz)).take ty.sz) := by
        intro n
        induction n with
        | zero => intro _; exact ⟨[], by simp, by simp, fun j u h => by simp at h, fun j y h => by omega⟩
        | succ n ih =>
          intro hn
          obtain ⟨news, l1, l2, l3, l4⟩ := ih (by omega)
          obtain ⟨cs, hkc, hrc⟩ := hel n _ (List.getElem?_eq_getElem (show n < ys.length by omega))
          refine ⟨news ++ cs, ?_, ?_, ?_, ?_⟩
          · rw [List.length_append, l1, ty.len hkc, Nat.add_mul, Nat.one_mul]
          · intro u hu
            rcases List.mem_append.1 hu with hu | hu
            · exact l2 u hu
            · exact ty.one hkc u hu
          · intro j u hu
            rcases Nat.lt_or_ge j news.length with hj | hj
            · rw [List.getElem?_append_left hj] at hu
              exact l3 j u hu
            · rw [List.getElem?_append_right hj] at hu
              have := hrc _ u hu
              rwa [show off + n * ty.sz + (j - news.length) = off + j by omega] at this
          · intro j y hj hy
            rcases Nat.lt_or_ge j n with hjn | hjn
            · have h5 : (j + 1) * ty.sz ≤ n * ty.sz := Nat.mul_le_mul_right _ hjn
              rw [Nat.add_mul, Nat.one_mul] at h5
              rw [List.drop_append_of_le_length (by omega), List.take_append_of_le_length (by rw [List.length_drop]; omega)]
              exact l4 j y hjn hy
            · obtain rfl : j = n := by omega
              rw [← l1, List.drop_left, ← ty.len hkc, List.take_length]
              rw [List.getElem?_eq_getElem (show j < ys.length by omega)] at hy
              injection hy with hy
              rw [← hy]
              exact hkc
      obtain ⟨news, l1, l2, l3, l4⟩ := hch ys.length (Nat.le_refl _)
      refine ⟨news, l1, l2, .inr ⟨_, rfl, fun j u hu => ?_⟩, fun j y hj => l4 j y (List.getElem?_eq_some_iff.1 hj).1 hj⟩
      rw [Addr.add_mid]
      exact l3 j u hu
  obtain ⟨news, n1, n2, n3, n4⟩ := hcells
  have fin : ∀ v' w', w'.ownsRow 0 e ty.sz v' (xs.length + m) (inner ++ news) → W.grownBy w' v.ownBlock → (v'.ownBlock = v.ownBlock ∨ v'.ownBlock = some W.heap.size) → Own ty e w' S v' (xs ++ ys) := by
    intro v' w' hor' hg hat
    refine ⟨fun k hk => ?_, inner ++ news, by rw [List.length_append, ← hm]; exact hor', ?_⟩
    · rcases hat with hat | hat
      · exact hS k (by rw [← hat]; exact hk)
      · rw [hat] at hk
        injection hk with hk
        exact hk ▸ hnew
    · have mv : ∀ {x : α} {cs : List Value}, ty.K W (fun k => S k ∧ v.ownBlock ≠ some k) x cs → ty.K w' (fun k => S k ∧ v'.ownBlock ≠ some k) x cs := by
        intro x cs hx
        have h1 : ty.K W (fun k => (S k ∧ v.ownBlock ≠ some k) ∧ k < W.heap.size) x cs := ty.mono (fun k h1 h2 => ⟨h1, h2⟩) hx
        have h2 := ty.move (w' := w') (Same.of_grown hg fun k hk => fun e => hk.1.2 e.symm) h1
        refine ty.mono (fun k hk _ => ⟨hk.1.1, ?_⟩) h2
        rcases hat with hat | hat
        · rw [hat]; exact hk.1.2
        · rw [hat]
          intro e
          injection e with e
          omega
      intro j x hj
      have hil : inner.length = xs.length * ty.sz := hor.1
      rcases Nat.lt_or_ge j xs.length with hjl | hjl
      · rw [List.getElem?_append_left hjl] at hj
        have h5 : (j + 1) * ty.sz ≤ xs.length * ty.sz := Nat.mul_le_mul_right _ hjl
        rw [Nat.add_mul, Nat.one_mul] at h5
        rw [List.drop_append_of_le_length (by omega), List.take_append_of_le_length (by rw [List.length_drop]; omega)]
        exact mv (hk j x hj)
      · rw [List.getElem?_append_right hjl] at hj
        have h6 := n4 _ x hj
        have h7 : j * ty.sz = inner.length + (j - xs.length) * ty.sz := by
          rw [hil, ← Nat.add_mul]
          congr 1
          omega
        rw [h7, List.drop_append, List.drop_eq_nil_of_le (by omega), List.nil_append, Nat.add_sub_cancel_left]
        exact mv (ty.mono (fun k h1 h2 => hin k h1 h2) h6)
  rcases n3 with ⟨m0, rfl⟩ | ⟨ad, rfl, hnews⟩
  · -- nothing is appended
    cases A with
    | some ad =>
      obtain ⟨v', w', h0, h1, h2, _, h4⟩ := run_append_own_at (P := P) W 0 t oty e i0 z ty.sz bytes he.slice hi hz0 hz1 hz2 he.zero ty.pos v xs.length inner hor ad m c [] n1 (fun j u h => by simp at h) n2 (by omega) (by rw [hm]; exact hbytes) (Nat.zero_le _)
      exact ⟨v', w', h0, fin v' w' h1 h2 h4, h2, h4⟩
    | none =>
      obtain ⟨A', c', hv, hc, hmm, hA0, hy⟩ := hy
      injection hv with h1 h2 h3
      subst h1 h2 h3
      obtain rfl := hA0 rfl
      have hrun := run_append_owned_none (P := P) W 0 t oty e i0 ty.sz he.slice hi v xs.length inner hor
      have hor0 : W.ownsRow 0 e ty.sz v (xs.length + 0) (inner ++ []) := by simpa using hor
      have hg0 : W.grownBy W v.ownBlock := ⟨rfl, rfl, rfl, Nat.le_refl _, fun _ _ _ => rfl⟩
      exact ⟨v, W, by rw [m0]; exact hrun, fin v W (by rw [m0]; exact hor0) hg0 (.inl rfl), hg0, .inl rfl⟩
  · obtain ⟨v', w', h0, h1, h2, _, h4⟩ := run_append_own_at (P := P) W 0 t oty e i0 z ty.sz bytes he.slice hi hz0 hz1 hz2 he.zero ty.pos v xs.length inner hor ad m c news n1 hnews n2 (by omega) (by rw [hm]; exact hbytes) (Nat.zero_le _)
    exact ⟨v', w', h0, fin v' w' h1 h2 h4, h2, h4⟩
variable {ops : Array Oper} {rest : List Oper} {o : Oper} {a : Act} {Q : Exit → Act → World → Prop}
/-- append(v, ys...): v nil or the call's own. -/
theorem wpList_own_append {W : World} {S Sy : Nat → Prop} {v : Value} {xs ys : List α} (hgd : o.guard = none) (s x : Operand) (t e : TypeId) (bytes : Nat) (z : Value)
    (ho : o.op = .call { callee := .builtin .append, args := #[s, x], argTypes := #[t, t] }) (he : ElemOf P t e ty.sz bytes z)
    (hs : a.eval s = v) (hown : Own ty e W S v xs) (A : Option Addr) (m c : Nat) (hx : a.eval x = .slice A m c) (hy : Row ty W Sy (.slice A m c) ys)
    (hm : m = ys.length) (hbytes : (xs.length + ys.length) * bytes ≤ 140737488355328) (hlen : xs.length + ys.length ≤ maxLen) (hnew : S W.heap.size) (hin : ∀ k, Sy k → k < W.heap.size → S k ∧ v.ownBlock ≠ some k)
    (h : ∀ v' w', Own ty e w' S v' (xs ++ ys) → W.grownBy w' v.ownBlock → (v'.ownBlock = v.ownBlock ∨ v'.ownBlock = some W.heap.size) → wpList P ops Q rest (a.put o.dst v') w') :
    wpList P ops Q (o :: rest) a W := by
  obtain ⟨v', w', hrun, h1, h2, h3⟩ := own_append_run t e o.type bytes z he hown A m c hy hm hbytes hlen hnew hin
  refine wpList_plain hgd fun K hK => ?_
  unfold Oper.wp execOp
  simp only [ho, resolve, invoke, builtin, Sem.run_bind, Sem.run_pure, Result.andThen_ok, List.map_toArray, List.map_cons, List.map_nil, hs, hx, hrun]
  exact hK _ _ (h v' w' h1 h2 h3)
/-- The same inside a fence. -/
theorem wpListIn_own_append {F : Fence} {n : Nat} {W : World} {S Sy : Nat → Prop} {v : Value} {xs ys : List α} (hgd : o.guard = none) (s x : Operand) (t e : TypeId) (bytes : Nat) (z : Value)
    (ho : o.op = .call { callee := .builtin .append, args := #[s, x], argTypes := #[t, t] }) (he : ElemOf P t e ty.sz bytes z)
    (hs : a.eval s = v) (hown : Own ty e W S v xs) (A : Option Addr) (m c : Nat) (hx : a.eval x = .slice A m c) (hy : Row ty W Sy (.slice A m c) ys)
    (hm : m = ys.length) (hbytes : (xs.length + ys.length) * bytes ≤ 140737488355328) (hlen : xs.length + ys.length ≤ maxLen) (hnew : S W.heap.size) (hin : ∀ k, Sy k → k < W.heap.size → S k ∧ v.ownBlock ≠ some k)
    (h : ∀ v' w', Own ty e w' S v' (xs ++ ys) → W.grownBy w' v.ownBlock → (v'.ownBlock = v.ownBlock ∨ v'.ownBlock = some W.heap.size) → wpListIn F n P ops Q rest (a.put o.dst v') w') :
    wpListIn F n P ops Q (o :: rest) a W := by
  obtain ⟨v', w', hrun, h1, h2, h3⟩ := own_append_run t e o.type bytes z he hown A m c hy hm hbytes hlen hnew hin
  refine wpListIn_plain hgd fun K hK' => ?_
  unfold Oper.wpIn
  refine ⟨?_, ?_⟩
  · simp [Oper.about, ho, resolve, Target.leads, Sem.run_pure]
  · rw [Oper.semAt_plain F _ _ (by rw [ho]; intro c hc'; cases hc')]
    simp [execOp, ho, resolve, invoke, builtin, hs, hx, hrun, Result.andThen]
    exact hK' _ _ (h v' w' h1 h2 h3)
end
/-- An element's cells, by its number. -/
theorem Row.at {α : Type} {t : Ty α} {w : World} {S : Nat → Prop} {A : Option Addr} {n c : Nat} {xs : List α} (h : Row t w S (.slice A n c) xs) {j : Nat} {x : α} (hj : xs[j]? = some x) :
    ∃ b off cs, A = some ⟨b, off, none⟩ ∧ S b ∧ b < w.heap.size ∧ t.K w S x cs ∧ w.rangeAt b (off + j * t.sz) cs := by
  obtain ⟨A', c', hv, _, _, _, h⟩ := h
  injection hv with h1 h2 h3
  subst h1 h2 h3
  obtain ⟨b, off, rfl, hb, hl, he⟩ := h.resolve_left (by rintro rfl; simp at hj)
  obtain ⟨cs, hk, hr⟩ := he j x hj
  exact ⟨b, off, cs, rfl, hb, hl, hk, hr⟩
theorem Row.n_eq {α : Type} {t : Ty α} {w : World} {S : Nat → Prop} {A : Option Addr} {n c : Nat} {xs : List α} (h : Row t w S (.slice A n c) xs) : n = xs.length ∧ n ≤ c ∧ c ≤ maxLen ∧ (A = none → c = 0) := by
  obtain ⟨A', c', hv, h4, h5, h6, h⟩ := h
  injection hv with h1 h2 h3
  subst h1 h2 h3
  exact ⟨rfl, h4, h5, h6⟩
theorem getElem?_of_lt {α : Type} {xs : List α} {j : Nat} (h : j < xs.length) : ∃ x, xs[j]? = some x := ⟨_, List.getElem?_eq_getElem h⟩
end Go.Proofs.Ytpehmmdbjakkpaa
