/- Lemmas about memory: what a slice's cells say (Row), what the call itself owns (Own), and how both outlive steps that turn other blocks. A region whose order is open, walked in one order: what only looks (and yields the same wherever S holds) is taken as soon as it may come; what writes or calls comes alone. Cells out of a known range; small lemmas. A part of a slice; what a call hands back. Own slices in a variable across the rounds of a range over a function. What an argument that can be read as data says of memory: rows, elements. A region whose order is open, walked in one order, where the class of worlds changes at the first store g: all that looks at the world comes ahead of it. The drawn region's rule, where the class is what stands at its own beginning. A drawn region in which two steps stand open at once: both orders are walked. append of one element to the call's own slice, whose elements may lie anywhere else. -/
import Derived.WalkKit
import Derived.RowKit
import Derived.Lib.Hide
import Derived.Deep.MidRow
import Derived.Deep.AppendLies
import Derived.Deep.Draws
import Derived.OwnWalkIn
import Derived.Deep.RegionHeld3
import Derived.RangeFuncNested
import Derived.RangeFuncBox
import Derived.Deep.Slices
import Derived.Deep.Fields
import Derived.ChangeSame
import Derived.ProofKit
namespace Go.Proofs.YtpehmmdbjakkpaaGreat
theorem putZ {α : Type} (a b : α) (l : List α) : (a :: l).set 0 b = b :: l := rfl
theorem putS {α : Type} (a b : α) (l : List α) (n : Nat) : (a :: l).set (n + 1) b = a :: l.set n b := rfl
theorem putT {α : Type} (l : List α) (i : Nat) (a : α) : l.toArray.setIfInBounds i a = (l.set i a).toArray := by simp
theorem opT {α : Type} (l : List α) (i : Nat) : l.toArray[i]? = l[i]? := by simp
theorem opS {α : Type} (a : α) (l : List α) (i : Nat) : (a :: l)[i + 1]? = l[i]? := by simp
theorem opZ {α : Type} (a : α) (l : List α) : (a :: l)[0]? = some a := rfl
open Go.RowKit

/-- The blocks of S that w has are in w' as they were. -/
def Same (S : Nat → Prop) (w w' : World) : Prop := ∀ k, S k → k < w.heap.size → w'.heap[k]? = w.heap[k]?
theorem Same.refl (S : Nat → Prop) (w : World) : Same S w w := fun _ _ _ => rfl
theorem Same.mono {S S' : Nat → Prop} {w w' : World} (h : Same S w w') (hs : ∀ k, S' k → S k) : Same S' w w' := fun k hk hl => h k (hs k hk) hl
theorem Same.of_below {S : Nat → Prop} {w w' : World} (h : Below w.heap.size w w') : Same S w w' := fun k _ hl => h.block k hl
theorem Same.of_below' {S : Nat → Prop} {n : Nat} {w w' : World} (h : Below n w w') (hs : ∀ k, S k → k < n) : Same S w w' := fun k hk _ => h.block k (hs k hk)
theorem Same.of_grown {S : Nat → Prop} {row : Option Nat} {w w' : World} (h : w.grownBy w' row) (hs : ∀ k, S k → some k ≠ row) : Same S w w' := fun k hk hl => h.block k hl (hs k hk)
theorem Same.of_setCell {S : Nat → Prop} (w : World) (p : Addr) (u : Value) (hs : ∀ k, S k → k ≠ p.block) : Same S w (w.setCell p u) := fun k hk _ => Below.heap_setCell w p u k (hs k hk)
theorem Same.of_alloc (S : Nat → Prop) (w : World) (o : Obj) : Same S w (w.alloc o) := fun k _ hl => Below.heap_alloc w o k hl
theorem Same.trans {S : Nat → Prop} {a b c : World} (h : Same S a b) (hs : a.heap.size ≤ b.heap.size) (k : Same S b c) : Same S a c := fun i hi hl => (k i hi (Nat.lt_of_lt_of_le hl hs)).trans (h i hi hl)
theorem heap_lt {w : World} {b : Nat} {o : Obj} (h : w.heap[b]? = some o) : b < w.heap.size := (Array.getElem?_eq_some_iff.1 h).1
theorem Same.cell {S : Nat → Prop} {w w' : World} (h : Same S w w') {a : Addr} {v : Value} (hs : S a.block) (hc : w.cell? a = some v) : w'.cell? a = some v := by
 rw [World.cell?_of_block (w := w) (h _ hs (block_lt_of_cell hc))]; exact hc
theorem Same.range {S : Nat → Prop} {w w' : World} (h : Same S w w') {b o : Nat} {cs : List Value} (hs : S b) (hc : w.rangeAt b o cs) : w'.rangeAt b o cs := fun j v hv => h.cell (a := ⟨b, o + j, none⟩) hs (hc j v hv)
theorem Same.block {S : Nat → Prop} {w w' : World} (h : Same S w w') {b : Nat} {o : Obj} (hs : S b) (hb : w.heap[b]? = some o) : w'.heap[b]? = some o := (h b hs (heap_lt hb)).trans hb

/-- A kind of elements: how many cells each has, and what they say, in blocks of S. -/
structure Ty (α : Type) where
 sz : Nat
 pos : 0 < sz
 K : World → (Nat → Prop) → α → List Value → Prop
 len : ∀ {w S x cs}, K w S x cs → cs.length = sz
 one : ∀ {w S x cs}, K w S x cs → ∀ u ∈ cs, u.oneCell' = true
 mono : ∀ {w S S' x cs}, (∀ k, S k → k < w.heap.size → S' k) → K w S x cs → K w S' x cs
 move : ∀ {w w' S x cs}, Same S w w' → K w S x cs → K w' S x cs

/-- Elements whose cells hang on nothing else. -/
def Ty.flat {α : Type} (sz : Nat) (pos : 0 < sz) (enc : α → List Value) (hl : ∀ x, (enc x).length = sz) (h1 : ∀ x, ∀ u ∈ enc x, u.oneCell' = true) : Ty α where
 sz := sz
 pos := pos
 K := fun _ _ x cs => cs = enc x
 len := fun h => by rw [h]; exact hl _
 one := fun h => by rw [h]; exact h1 _
 mono := fun _ h => h
 move := fun _ h => h

/-- The slice value v reads as xs. -/
def Row {α : Type} (t : Ty α) (w : World) (S : Nat → Prop) (v : Value) (xs : List α) : Prop :=
 ∃ A c, v = .slice A xs.length c ∧ xs.length ≤ c ∧ c ≤ maxLen ∧ (A = none → c = 0) ∧ (xs = [] ∨ ∃ b off, A = some ⟨b, off, none⟩ ∧ S b ∧ b < w.heap.size ∧ ∀ j x, xs[j]? = some x → ∃ cs, t.K w S x cs ∧ w.rangeAt b (off + j * t.sz) cs)
section
variable {α : Type} {t : Ty α} {w w' : World} {S S' : Nat → Prop} {v : Value} {xs : List α}
theorem Row.nil (t : Ty α) (w : World) (S : Nat → Prop) : Row t w S (.slice none 0 0) [] := ⟨none, 0, rfl, Nat.le_refl _, Nat.zero_le _, fun _ => rfl, .inl rfl⟩
theorem Row.mono (h : Row t w S v xs) (hs : ∀ k, S k → k < w.heap.size → S' k) : Row t w S' v xs := by
 obtain ⟨A, c, hv, hc, hm, hA0, h⟩ := h
 refine ⟨A, c, hv, hc, hm, hA0, h.imp id ?_⟩
 rintro ⟨b, off, hA, hb, hl, he⟩
 refine ⟨b, off, hA, hs b hb hl, hl, fun j x hj => ?_⟩
 obtain ⟨cs, hk, hr⟩ := he j x hj
 exact ⟨cs, t.mono hs hk, hr⟩
theorem Row.move (h : Row t w S v xs) (hs : Same S w w') : Row t w' S v xs := by
 obtain ⟨A, c, hv, hc, hm, hA0, h⟩ := h
 refine ⟨A, c, hv, hc, hm, hA0, ?_⟩
 rcases xs with _ | ⟨x0, xs⟩
 ·
  exact .inl rfl
 ·
  right
  obtain ⟨b, off, hA, hb, hl, he⟩ := h.resolve_left (by simp)
  refine ⟨b, off, hA, hb, ?_, fun j x hj => ?_⟩
  ·
   have h1 := hs b hb hl
   obtain ⟨o, ho⟩ : ∃ o, w.heap[b]? = some o := ⟨_, Array.getElem?_eq_getElem hl⟩
   exact heap_lt (h1.trans ho)
  ·
   obtain ⟨cs, hk, hr⟩ := he j x hj
   exact ⟨cs, t.move hs hk, hs.range hb hr⟩
theorem Row.below (h : Row t w S v xs) (hb : Below w.heap.size w w') : Row t w' S v xs := h.move (.of_below hb)
theorem Row.bound (h : Row t w S v xs) : Row t w (fun k => S k ∧ k < w.heap.size) v xs := h.mono fun _ hk hl => ⟨hk, hl⟩
theorem Row.len (h : Row t w S v xs) : xs.length ≤ maxLen := by
 obtain ⟨A, c, hv, hc, hm, hA0, h⟩ := h
 omega
theorem Row.slice (h : Row t w S v xs) : ∃ A c, v = .slice A xs.length c := by
 obtain ⟨A, c, hv, _⟩ := h
 exact ⟨A, c, hv⟩
end

/-- v is nil, or lies at the head of a block of S that the call itself made, and may be written; the elements lie in other blocks of S. -/
def Own {α : Type} (t : Ty α) (e : TypeId) (w : World) (S : Nat → Prop) (v : Value) (xs : List α) : Prop :=
 (∀ k, v.ownBlock = some k → S k) ∧ ∃ inner, w.ownsRow 0 e t.sz v xs.length inner ∧ ∀ j x, xs[j]? = some x → t.K w (fun k => S k ∧ v.ownBlock ≠ some k) x ((inner.drop (j * t.sz)).take t.sz)
section
variable {α : Type} {t : Ty α} {e : TypeId} {w w' : World} {S S' : Nat → Prop} {v : Value} {xs : List α}
theorem Own.nil (t : Ty α) (e : TypeId) (w : World) (S : Nat → Prop) : Own t e w S (.slice none 0 0) [] := ⟨fun k h => by simp [Value.ownBlock] at h, [], World.ownsRow_nil _ _ _ _, fun j x h => by simp at h⟩
theorem Own.slice (h : Own t e w S v xs) : ∃ A c, v = .slice A xs.length c := by
 obtain ⟨_, inner, ho, _⟩ := h
 rcases ho.2 with ⟨rfl, h0⟩ | ⟨g, cap, cur, rfl, _⟩
 ·
  exact ⟨none, 0, by rw [h0]⟩
 ·
  exact ⟨_, cap, rfl⟩
theorem Own.lt (h : Own t e w S v xs) : ∀ k, v.ownBlock = some k → k < w.heap.size := fun k hk => by
 obtain ⟨_, inner, ho, _⟩ := h
 exact (ho.lt k hk).2
theorem Own.mono (h : Own t e w S v xs) (hs : ∀ k, S k → k < w.heap.size → S' k) : Own t e w S' v xs := by
 have hlt := h.lt
 obtain ⟨hS, inner, ho, hk⟩ := h
 exact ⟨fun k h => hs k (hS k h) (hlt k h), inner, ho, fun j x hj => t.mono (fun k hk hl => ⟨hs k hk.1 hl, hk.2⟩) (hk j x hj)⟩
theorem ownsRow_same {base : Nat} {size n : Nat} {inner : List Value} (h : w.ownsRow base e size v n inner) (hs : ∀ k, v.ownBlock = some k → w'.heap[k]? = w.heap[k]?) : w'.ownsRow base e size v n inner := by
 obtain ⟨h1, h2⟩ := h
 refine ⟨h1, ?_⟩
 rcases h2 with h2 | ⟨g, cap, cur, rfl, hg, hh, r⟩
 ·
  exact .inl h2
 ·
  exact .inr ⟨g, cap, cur, rfl, hg, (hs g (by simp [Value.ownBlock])).trans hh, r⟩
theorem Own.move (h : Own t e w S v xs) (hs : Same S w w') : Own t e w' S v xs := by
 have hlt := h.lt
 obtain ⟨hS, inner, ho, hk⟩ := h
 exact ⟨hS, inner, ownsRow_same ho (fun k hk => hs k (hS k hk) (hlt k hk)), fun j x hj => t.move (hs.mono fun k hk => hk.1) (hk j x hj)⟩
theorem Own.below (h : Own t e w S v xs) (hb : Below w.heap.size w w') : Own t e w' S v xs := h.move (.of_below hb)
theorem Own.bound (h : Own t e w S v xs) : Own t e w (fun k => S k ∧ k < w.heap.size) v xs := h.mono fun _ hk hl => ⟨hk, hl⟩
/-- What is owned is read. -/
theorem Own.row (h : Own t e w S v xs) : Row t w S v xs := by
 have hlt := h.lt
 obtain ⟨hS, inner, ho, hk⟩ := h
 have hlen := ho.1
 rcases ho.2 with ⟨rfl, h0⟩ | ⟨g, cap, cur, rfl, _, hh, h1, h2, h3, h4⟩
 ·
  obtain rfl : xs = [] := List.eq_nil_of_length_eq_zero h0
  exact Row.nil _ _ _
 ·
  refine ⟨_, cap, rfl, h1, h2, by simp, ?_⟩
  right
  refine ⟨g, 0, rfl, hS g (by simp [Value.ownBlock]), heap_lt hh, fun j x hj => ⟨_, t.mono (fun _ hk _ => hk.1) (hk j x hj), fun i u hu => ?_⟩⟩
  rw [List.getElem?_take] at hu
  split at hu
  ·
   rw [List.getElem?_drop] at hu
   have hc := ho.cells (g := g) (by simp [Value.ownBlock]) _ u hu
   rw [Addr.add_mid] at hc
   simpa [Nat.add_assoc] using hc
  ·
   cases hu
end
/-- An element's type: its row of the program's table, and the slice type's. -/
structure ElemOf (P : Program) (t e : TypeId) (sz bytes : Nat) (z : Value) : Prop where
 slice : P.underlying t = some (.slice e)
 info : (P.info? e).map (fun i => (i.zero, i.size, i.bytes)) = some (some z, sz, bytes)
 zero : z.cells.size = sz
section
variable {α : Type} {ty : Ty α} {P : Program}
/-- append(v, ys...), run: v nil or the call's own. -/
theorem own_append_run {W : World} {S Sy : Nat → Prop} {v : Value} {xs ys : List α} (t e : TypeId) (oty : TypeId) (bytes : Nat) (z : Value) (he : ElemOf P t e ty.sz bytes z)
  (hown : Own ty e W S v xs) (A : Option Addr) (m c : Nat) (hy : Row ty W Sy (.slice A m c) ys)
  (hm : m = ys.length) (hbytes : (xs.length + ys.length) * bytes ≤ 140737488355328) (hlen : xs.length + ys.length ≤ maxLen) (hnew : S W.heap.size) (hin : ∀ k, Sy k → k < W.heap.size → S k ∧ v.ownBlock ≠ some k) :
  ∃ v' w', (Builtin.append_ #[t, t] oty #[v, .slice A m c]).run P W = .ok v' w' ∧ Own ty e w' S v' (xs ++ ys) ∧ W.grownBy w' v.ownBlock ∧ (v'.ownBlock = v.ownBlock ∨ v'.ownBlock = some W.heap.size) := by
 obtain ⟨i0, hi, hzz⟩ := Option.map_eq_some_iff.1 he.info
 simp only [Prod.mk.injEq] at hzz
 obtain ⟨hz0, hz1, hz2⟩ := hzz
 have hlt := hown.lt
 obtain ⟨hS, inner, hor, hk⟩ := hown
 -- the cells that are appended
 have hcells : ∃ news : List Value, news.length = m * ty.sz ∧ (∀ u ∈ news, u.oneCell' = true) ∧ (m = 0 ∧ news = [] ∨ ∃ ad, A = some ad ∧ ∀ j u, news[j]? = some u → W.cell? (ad.add j) = some u) ∧
   ∀ j y, ys[j]? = some y → ty.K W Sy y ((news.drop (j * ty.sz)).take ty.sz) := by
  obtain ⟨A', c', hv, hc, hmm, hA0, hy⟩ := hy
  injection hv with h1 h2 h3
  subst h1 h2 h3
  rcases hy with rfl | ⟨b, off, rfl, hb, hl, hel⟩
  ·
   exact ⟨[], by simp, by simp, .inl ⟨rfl, rfl⟩, fun j y hj => by simp at hj⟩
  ·
   have hch : ∀ n, n ≤ ys.length → ∃ news : List Value, news.length = n * ty.sz ∧ (∀ u ∈ news, u.oneCell' = true) ∧ W.rangeAt b off news ∧ ∀ j y, j < n → ys[j]? = some y → ty.K W Sy y ((news.drop (j * ty.sz)).take ty.sz) := by
    intro n
    induction n with
    | zero => intro _; exact ⟨[], by simp, by simp, fun j u h => by simp at h, fun j y h => by omega⟩
    | succ n ih =>
     intro hn
     obtain ⟨news, l1, l2, l3, l4⟩ := ih (by omega)
     obtain ⟨cs, hkc, hrc⟩ := hel n _ (List.getElem?_eq_getElem (show n < ys.length by omega))
     refine ⟨news ++ cs, ?_, ?_, ?_, ?_⟩
     ·
      rw [List.length_append, l1, ty.len hkc, Nat.add_mul, Nat.one_mul]
     ·
      intro u hu
      rcases List.mem_append.1 hu with hu | hu
      ·
       exact l2 u hu
      ·
       exact ty.one hkc u hu
     ·
      intro j u hu
      rcases Nat.lt_or_ge j news.length with hj | hj
      ·
       rw [List.getElem?_append_left hj] at hu
       exact l3 j u hu
      ·
       rw [List.getElem?_append_right hj] at hu
       have := hrc _ u hu
       rwa [show off + n * ty.sz + (j - news.length) = off + j by omega] at this
     ·
      intro j y hj hy
      rcases Nat.lt_or_ge j n with hjn | hjn
      ·
       have h5 : (j + 1) * ty.sz ≤ n * ty.sz := Nat.mul_le_mul_right _ hjn
       rw [Nat.add_mul, Nat.one_mul] at h5
       rw [List.drop_append_of_le_length (by omega), List.take_append_of_le_length (by rw [List.length_drop]; omega)]
       exact l4 j y hjn hy
      ·
       obtain rfl : j = n := by omega
       rw [← l1, List.drop_left, ← ty.len hkc, List.take_length]
       rw [List.getElem?_eq_getElem (show j < ys.length by omega)] at hy
       injection hy with hy
       rw [← hy]
       exact hkc
   obtain ⟨news, l1, l2, l3, l4⟩ := hch ys.length (Nat.le_refl _)
   refine ⟨news, l1, l2, .inr ⟨_, rfl, fun j u hu => ?_⟩, fun j y hj => l4 j y (List.getElem?_eq_some_iff.1 hj).1 hj⟩
   rw [Addr.add_mid]
   exact l3 j u hu
 obtain ⟨news, n1, n2, n3, n4⟩ := hcells
 have fin : ∀ v' w', w'.ownsRow 0 e ty.sz v' (xs.length + m) (inner ++ news) → W.grownBy w' v.ownBlock → (v'.ownBlock = v.ownBlock ∨ v'.ownBlock = some W.heap.size) → Own ty e w' S v' (xs ++ ys) := by
  intro v' w' hor' hg hat
  refine ⟨fun k hk => ?_, inner ++ news, by rw [List.length_append, ← hm]; exact hor', ?_⟩
  ·
   rcases hat with hat | hat
   ·
    exact hS k (by rw [← hat]; exact hk)
   ·
    rw [hat] at hk
    injection hk with hk
    exact hk ▸ hnew
  ·
   have mv : ∀ {x : α} {cs : List Value}, ty.K W (fun k => S k ∧ v.ownBlock ≠ some k) x cs → ty.K w' (fun k => S k ∧ v'.ownBlock ≠ some k) x cs := by
    intro x cs hx
    have h1 : ty.K W (fun k => (S k ∧ v.ownBlock ≠ some k) ∧ k < W.heap.size) x cs := ty.mono (fun k h1 h2 => ⟨h1, h2⟩) hx
    have h2 := ty.move (w' := w') (Same.of_grown hg fun k hk => fun e => hk.1.2 e.symm) h1
    refine ty.mono (fun k hk _ => ⟨hk.1.1, ?_⟩) h2
    rcases hat with hat | hat
    ·
     rw [hat]; exact hk.1.2
    ·
     rw [hat]
     intro e
     injection e with e
     omega
   intro j x hj
   have hil : inner.length = xs.length * ty.sz := hor.1
   rcases Nat.lt_or_ge j xs.length with hjl | hjl
   ·
    rw [List.getElem?_append_left hjl] at hj
    have h5 : (j + 1) * ty.sz ≤ xs.length * ty.sz := Nat.mul_le_mul_right _ hjl
    rw [Nat.add_mul, Nat.one_mul] at h5
    rw [List.drop_append_of_le_length (by omega), List.take_append_of_le_length (by rw [List.length_drop]; omega)]
    exact mv (hk j x hj)
   ·
    rw [List.getElem?_append_right hjl] at hj
    have h6 := n4 _ x hj
    have h7 : j * ty.sz = inner.length + (j - xs.length) * ty.sz := by
     rw [hil, ← Nat.add_mul]
     congr 1
     omega
    rw [h7, List.drop_append, List.drop_eq_nil_of_le (by omega), List.nil_append, Nat.add_sub_cancel_left]
    exact mv (ty.mono (fun k h1 h2 => hin k h1 h2) h6)
 rcases n3 with ⟨m0, rfl⟩ | ⟨ad, rfl, hnews⟩
 ·
  -- nothing is appended
  cases A with
  | some ad =>
   obtain ⟨v', w', h0, h1, h2, _, h4⟩ := run_append_own_at (P := P) W 0 t oty e i0 z ty.sz bytes he.slice hi hz0 hz1 hz2 he.zero ty.pos v xs.length inner hor ad m c [] n1 (fun j u h => by simp at h) n2 (by omega) (by rw [hm]; exact hbytes) (Nat.zero_le _)
   exact ⟨v', w', h0, fin v' w' h1 h2 h4, h2, h4⟩
  | none =>
   obtain ⟨A', c', hv, hc, hmm, hA0, hy⟩ := hy
   injection hv with h1 h2 h3
   subst h1 h2 h3
   obtain rfl := hA0 rfl
   have hrun := run_append_owned_none (P := P) W 0 t oty e i0 ty.sz he.slice hi v xs.length inner hor
   have hor0 : W.ownsRow 0 e ty.sz v (xs.length + 0) (inner ++ []) := by simpa using hor
   have hg0 : W.grownBy W v.ownBlock := ⟨rfl, rfl, rfl, Nat.le_refl _, fun _ _ _ => rfl⟩
   exact ⟨v, W, by rw [m0]; exact hrun, fin v W (by rw [m0]; exact hor0) hg0 (.inl rfl), hg0, .inl rfl⟩
 ·
  obtain ⟨v', w', h0, h1, h2, _, h4⟩ := run_append_own_at (P := P) W 0 t oty e i0 z ty.sz bytes he.slice hi hz0 hz1 hz2 he.zero ty.pos v xs.length inner hor ad m c news n1 hnews n2 (by omega) (by rw [hm]; exact hbytes) (Nat.zero_le _)
  exact ⟨v', w', h0, fin v' w' h1 h2 h4, h2, h4⟩
variable {ops : Array Oper} {rest : List Oper} {o : Oper} {a : Act} {Q : Exit → Act → World → Prop}
/-- append(v, ys...): v nil or the call's own. -/
theorem wpList_own_append {W : World} {S Sy : Nat → Prop} {v : Value} {xs ys : List α} (hgd : o.guard = none) (s x : Operand) (t e : TypeId) (bytes : Nat) (z : Value)
  (ho : o.op = .call { callee := .builtin .append, args := #[s, x], argTypes := #[t, t] }) (he : ElemOf P t e ty.sz bytes z)
  (hs : a.eval s = v) (hown : Own ty e W S v xs) (A : Option Addr) (m c : Nat) (hx : a.eval x = .slice A m c) (hy : Row ty W Sy (.slice A m c) ys)
  (hm : m = ys.length) (hbytes : (xs.length + ys.length) * bytes ≤ 140737488355328) (hlen : xs.length + ys.length ≤ maxLen) (hnew : S W.heap.size) (hin : ∀ k, Sy k → k < W.heap.size → S k ∧ v.ownBlock ≠ some k)
  (h : ∀ v' w', Own ty e w' S v' (xs ++ ys) → W.grownBy w' v.ownBlock → (v'.ownBlock = v.ownBlock ∨ v'.ownBlock = some W.heap.size) → wpList P ops Q rest (a.put o.dst v') w') :
  wpList P ops Q (o :: rest) a W := by
 obtain ⟨v', w', hrun, h1, h2, h3⟩ := own_append_run t e o.type bytes z he hown A m c hy hm hbytes hlen hnew hin
 refine wpList_plain hgd fun K hK => ?_
 unfold Oper.wp execOp
 simp only [ho, resolve, invoke, builtin, Sem.run_bind, Sem.run_pure, Result.andThen_ok, List.map_toArray, List.map_cons, List.map_nil, hs, hx, hrun]
 exact hK _ _ (h v' w' h1 h2 h3)
end
/-- An element's cells, by its number. -/
theorem Row.at {α : Type} {t : Ty α} {w : World} {S : Nat → Prop} {A : Option Addr} {n c : Nat} {xs : List α} (h : Row t w S (.slice A n c) xs) {j : Nat} {x : α} (hj : xs[j]? = some x) :
  ∃ b off cs, A = some ⟨b, off, none⟩ ∧ S b ∧ b < w.heap.size ∧ t.K w S x cs ∧ w.rangeAt b (off + j * t.sz) cs := by
 obtain ⟨A', c', hv, _, _, _, h⟩ := h
 injection hv with h1 h2 h3
 subst h1 h2 h3
 obtain ⟨b, off, rfl, hb, hl, he⟩ := h.resolve_left (by rintro rfl; simp at hj)
 obtain ⟨cs, hk, hr⟩ := he j x hj
 exact ⟨b, off, cs, rfl, hb, hl, hk, hr⟩
theorem Row.n_eq {α : Type} {t : Ty α} {w : World} {S : Nat → Prop} {A : Option Addr} {n c : Nat} {xs : List α} (h : Row t w S (.slice A n c) xs) : n = xs.length ∧ n ≤ c ∧ c ≤ maxLen ∧ (A = none → c = 0) := by
 obtain ⟨A', c', hv, h4, h5, h6, h⟩ := h
 injection hv with h1 h2 h3
 subst h1 h2 h3
 exact ⟨rfl, h4, h5, h6⟩
theorem getElem?_of_lt {α : Type} {xs : List α} {j : Nat} (h : j < xs.length) : ∃ x, xs[j]? = some x := ⟨_, List.getElem?_eq_getElem h⟩
end Go.Proofs.YtpehmmdbjakkpaaGreat
namespace Go.Proofs.YtpehmmdbjakkpaaGreat
open Go.RowKit

def schedOk (ops : Array Oper) : List (Nat × Bool) → Array Bool → Bool
 | [], l => (Region.ready .any ops l).isEmpty
 | (i, true) :: r, l => Region.free .any ops l i && (Region.ready .any ops l).contains i && schedOk ops r (l.setIfInBounds i true)
 | (i, false) :: r, l => Region.ready .any ops l == [i] && schedOk ops r (l.setIfInBounds i true)
def schedB (ops : Array Oper) (s : List (Nat × Bool)) : Bool := Region.noSelect ops && s.length == ops.size && schedOk ops s (Array.replicate ops.size false)

/-- What stands behind a step: no way out but on. -/
def SchedPost (K : (World → Prop) → Act → World → Prop) (S : World → Prop) (e : Exit) (a' : Act) (w' : World) : Prop := e = .normal ∧ ∃ S' : World → Prop, (∀ W, S' W → S W) ∧ S' w' ∧ K S' a' w'
/-- The walk of a region in the order s. -/
def wpSched (P : Program) (ops : Array Oper) (Q : Act → World → Prop) : List (Nat × Bool) → (World → Prop) → Act → World → Prop
 | [], _, a, w => Q a w
 | (i, true) :: r, S, a, w => ∃ o v, ops[i]? = some o ∧ YieldsIf P ops S o v a ∧ S w ∧ wpSched P ops Q r S (a.put o.dst v) w
 | (i, false) :: r, S, a, w => ∃ o, ops[i]? = some o ∧ wpList P ops (SchedPost (wpSched P ops Q r) S) [o] a w

section
variable {P : Program} {ops : Array Oper} {Q : Act → World → Prop} {S S' : World → Prop} {a : Act} {w : World} {i : Nat} {r : List (Nat × Bool)} {o : Oper}
theorem sched_take {v : Value} (ho : ops[i]? = some o) (hy : YieldsIf P ops S o v a) (hS : S w) (h : wpSched P ops Q r S (a.put o.dst v) w) : wpSched P ops Q ((i, true) :: r) S a w := ⟨o, v, ho, hy, hS, h⟩
theorem sched_step (ho : ops[i]? = some o) (h : wpList P ops (SchedPost (wpSched P ops Q r) S) [o] a w) : wpSched P ops Q ((i, false) :: r) S a w := ⟨o, ho, h⟩
theorem sched_done (h : Q a w) : wpSched P ops Q [] S a w := h
/-- What follows a step: S goes on to hold. -/
theorem sched_on (hS : S w) (h : wpSched P ops Q r S a w) : SchedPost (wpSched P ops Q r) S .normal a w := ⟨rfl, S, fun _ h => h, hS, h⟩
theorem oper_wp_q {K : Act → World → Prop} {Q1 Q2 : Exit → Act → World → Prop} (h1 : ∀ c a w, Q1 (.panic c) a w → Q2 (.panic c) a w) (h2 : LetsOut Q1 → LetsOut Q2) (h : o.wp P a w K Q1) : o.wp P a w K Q2 := by
 unfold Oper.wp Oper.upon at h ⊢
 split at h
 ·
  exact h
 ·
  exact h
 ·
  exact h
 ·
  rename_i f args w' hr
  intro cs
  obtain ⟨e, w2, fr, hR, hc⟩ := h cs
  refine ⟨e, w2, fr, ?_, hc⟩
  cases e with
  | returned v => exact hR
  | panicked c => exact h1 _ _ _ hR
  | outgrown => exact h2 hR
 ·
  exact h
 ·
  exact h1 _ _ _ h
 ·
  exact h.elim
theorem wpAnyH_mono {Q' : Exit → Act → World → Prop} (hs : ∀ W, S' W → S W) : ∀ (fuel : Nat) (l : Array Bool) (a : Act) (w : World), wpAnyH P .any ops Q' S' fuel l a w → wpAnyH P .any ops Q' S fuel l a w := by
 intro fuel
 induction fuel with
 | zero => intro l a w h; exact h
 | succ n ih =>
  intro l a w h
  refine ⟨h.1, fun i hi => ?_⟩
  have h1 := h.2 i hi
  unfold wpOp at h1 ⊢
  split
  ·
   rename_i hn
   rw [hn] at h1
   exact ⟨hs _ h1.1, ih _ _ _ h1.2⟩
  ·
   rename_i o ho
   rw [ho] at h1
   simp only at h1
   split
   ·
    rename_i hw
    rw [if_pos hw] at h1
    rcases h1 with h1 | h1
    ·
     exact .inl (Oper.wp_mono (fun a w h => ⟨hs _ h.1, ih _ _ _ h.2⟩) h1)
    ·
     exact .inr h1
   ·
    rename_i hw
    rw [if_neg hw] at h1
    exact ⟨hs _ h1.1, ih _ _ _ h1.2⟩
theorem wpAnyH_of_sched {Q' : Exit → Act → World → Prop} (hsel : Region.noSelect ops = true) (hp : ∀ c a w, ¬ Q' (.panic c) a w) (hQ : ∀ a w, Q a w → Q' .normal a w) :
  ∀ (s : List (Nat × Bool)) (S : World → Prop) (l : Array Bool) (a : Act) (w : World), schedOk ops s l = true → wpSched P ops Q s S a w → wpAnyH P .any ops Q' S s.length l a w := by
 intro s
 induction s with
 | nil =>
  intro S l a w hk h
  exact ⟨by simpa [schedOk] using hk, hQ _ _ h⟩
 | cons e r ih =>
  intro S l a w hk h
  obtain ⟨i, b⟩ := e
  cases b with
  | true =>
   obtain ⟨o, v, ho, hy, hS, hr⟩ := h
   simp only [schedOk, Bool.and_eq_true] at hk
   exact wpAnyH_take ho hsel hk.1.1 hk.1.2 (fun c a w h => (hp _ _ _ h).elim) hy hS (ih S _ _ _ hk.2 hr)
  | false =>
   obtain ⟨o, ho, hr⟩ := h
   simp only [schedOk, Bool.and_eq_true, beq_iff_eq] at hk
   refine wpAnyH_all hk.1 (by simp) (fun j hj => ?_)
   obtain rfl : j = i := by simpa using hj
   unfold wpOp
   rw [ho]
   simp only
   unfold wpList at hr
   split
   ·
    rename_i hw
    rw [if_pos hw] at hr
    rcases hr with hr | ⟨_, a', w', hr, _⟩
    ·
     refine .inl (Oper.wp_mono ?_ (oper_wp_q ?_ ?_ hr))
     ·
      rintro a' w' ⟨_, S', hs, hS', h2⟩
      exact ⟨hs _ hS', wpAnyH_mono hs _ _ _ _ (ih S' _ _ _ hk.2 h2)⟩
     ·
      rintro c a' w' ⟨he, _⟩
      cases he
     ·
      rintro ⟨a', w', he, _⟩
      cases he
    ·
     cases hr
   ·
    rename_i hw
    rw [if_neg hw] at hr
    obtain ⟨_, S', hs, hS', h2⟩ := hr
    exact ⟨hs _ hS', wpAnyH_mono hs _ _ _ _ (ih S' _ _ _ hk.2 h2)⟩
/-- THE RULE. -/
theorem wp_region_sched {id : Nat} {Q' : Exit → Act → World → Prop} (s : List (Nat × Bool)) (S : World → Prop) (hm : P.follows .mixedOrders = true) (hB : schedB ops s = true) (h : wpSched P ops (fun a w => Q' .normal a w) s S a w.drew) : (Code.region id ops true).wp P Q' a w := by
 simp only [schedB, Bool.and_eq_true, beq_iff_eq] at hB
 refine Code.wp_mono (Q := fun e a w => e = .normal ∧ Q' e a w) (fun e a w h => h.2) ?_
 refine wp_region_held (S := S) hm ?_
 have h2 := wpAnyH_of_sched (Q' := fun e a w => e = .normal ∧ Q' e a w) hB.1.1 (fun c a w h => by cases h.1) (fun a w h => ⟨rfl, h⟩) s S _ a _ hB.2 h
 rwa [hB.1.2] at h2
end

/-- Blocks of T are as they were at w. -/
def Kept (w : World) (T : Nat → Prop) (W : World) : Prop := w.heap.size ≤ W.heap.size ∧ ∀ k, T k → k < w.heap.size → W.heap[k]? = w.heap[k]?
section
variable {w W W' : World} {T : Nat → Prop}
theorem Kept.refl (w : World) (T : Nat → Prop) : Kept w T w := ⟨Nat.le_refl _, fun _ _ _ => rfl⟩
theorem Kept.cell (h : Kept w T W) (b o : Nat) (hT : T b) (hl : b < w.heap.size) : W.cell? ⟨b, o, none⟩ = w.cell? ⟨b, o, none⟩ := World.cell?_of_block (w := w) (h.2 b hT hl)
theorem Kept.trans {W1 : World} (h : Kept w T W) (k : Kept W T W1) : Kept w T W1 := ⟨Nat.le_trans h.1 k.1, fun i hT hl => (k.2 i hT (Nat.lt_of_lt_of_le hl h.1)).trans (h.2 i hT hl)⟩
theorem Kept.below (h : Kept w T W) (hb : Below W.heap.size W W') : Kept w T W' := ⟨Nat.le_trans h.1 hb.size, fun k hT hl => (hb.block k (Nat.lt_of_lt_of_le hl h.1)).trans (h.2 k hT hl)⟩
theorem Kept.alloc (h : Kept w T W) (o : Obj) : Kept w T (W.alloc o) := ⟨Nat.le_trans h.1 (by simp), fun k hT hl => (Below.heap_alloc W o k (Nat.lt_of_lt_of_le hl h.1)).trans (h.2 k hT hl)⟩
theorem Kept.setCell (h : Kept w T W) {p : Addr} (hp : w.heap.size ≤ p.block ∨ ¬ T p.block) (u : Value) : Kept w T (W.setCell p u) := ⟨by simpa [World.setCell] using h.1, fun k hT hl => (Below.heap_setCell W p u k (fun e => by
 rcases hp with h1 | h1
 ·
  omega
 ·
  exact h1 (e ▸ hT))).trans (h.2 k hT hl)⟩
theorem Kept.drew (h : Kept w T W) : Kept w T W.drew := h
theorem Kept.drewN (h : Kept w T W) (n : Nat) : Kept w T (W.drewN n) := h
theorem Kept.grown {row : Option Nat} (h : Kept w T W) (hg : W.grownBy W' row) (hr : ∀ k, row = some k → w.heap.size ≤ k ∨ ¬ T k) : Kept w T W' := ⟨Nat.le_trans h.1 hg.size, fun k hT hl => (hg.block k (Nat.lt_of_lt_of_le hl h.1) (fun e => by
 rcases hr k e.symm with h1 | h1
 ·
  omega
 ·
  exact h1 hT)).trans (h.2 k hT hl)⟩
end
end Go.Proofs.YtpehmmdbjakkpaaGreat
namespace Go.Proofs.YtpehmmdbjakkpaaGreat
open Go.RowKit
section
variable {w : World} {b o : Nat} {v0 v1 v2 v3 v4 : Value}
theorem range2 (h : w.rangeAt b o [v0, v1]) : w.cell? ⟨b, o, none⟩ = some v0 ∧ w.cell? ⟨b, o + 1, none⟩ = some v1 := ⟨h 0 _ rfl, h 1 _ rfl⟩
theorem range3 (h : w.rangeAt b o [v0, v1, v2]) : w.cell? ⟨b, o, none⟩ = some v0 ∧ w.cell? ⟨b, o + 1, none⟩ = some v1 ∧ w.cell? ⟨b, o + 2, none⟩ = some v2 := ⟨h 0 _ rfl, h 1 _ rfl, h 2 _ rfl⟩
end
theorem eq_of_getElem? {α : Type} {xs ys : List α} (hl : xs.length = ys.length) (h : ∀ j, j < xs.length → xs[j]? = ys[j]?) : xs = ys := by
 apply List.ext_getElem?
 intro j
 by_cases hj : j < xs.length
 ·
  exact h j hj
 ·
  rw [List.getElem?_eq_none (by omega), List.getElem?_eq_none (by omega)]
end Go.Proofs.YtpehmmdbjakkpaaGreat
namespace Go.Proofs.YtpehmmdbjakkpaaGreat
open Go.RowKit
/-- What is handed back is the call's own slice. -/
def RetOwn {α : Type} (t : Ty α) (e : TypeId) (w : World) (xs : List α) (en : Ending) (w' : World) : Prop := ∃ v, en = .returned v ∧ Own t e w' (fun k => w.heap.size ≤ k) v xs ∧ Below w.heap.size w w'
theorem RetOwn.mk {α : Type} {t : Ty α} {e : TypeId} {w w' : World} {xs : List α} {v : Value} (h : Own t e w' (fun k => w.heap.size ≤ k) v xs) (hb : Below w.heap.size w w') : RetOwn t e w xs (.returned v) w' := ⟨v, rfl, h, hb⟩
theorem below_of_grown {w wc w1 : World} {row : Option Nat} (hb : Below w.heap.size w wc) (hg : wc.grownBy w1 row) (hr : ∀ k, row = some k → w.heap.size ≤ k) : Below w.heap.size w w1 := hb.grown hg hb.size hr
/-- The box of one element that is appended. -/
theorem Row.box {α : Type} (t : Ty α) (W : World) {x : α} {cs : List Value} (e : TypeId) (S : Nat → Prop) (hk : t.K W S x cs) (hS : S W.heap.size) : Row t (W.alloc (.cells cs.toArray e)) S (.slice (some ⟨W.heap.size, 0, none⟩) 1 1) [x] := by
 refine ⟨_, 1, rfl, Nat.le_refl _, by unfold maxLen; omega, by simp, .inr ⟨_, _, rfl, hS, by simp, fun j y hj => ?_⟩⟩
 obtain ⟨rfl, rfl⟩ : j = 0 ∧ x = y := by
  cases j with
  | zero => simpa using hj
  | succ j => simp at hj
 refine ⟨cs, t.move (Same.of_alloc _ _ _) hk, fun i u hu => ?_⟩
 have h1 := heap_alloc_new W (.cells cs.toArray e)
 rw [Nat.zero_mul, Nat.add_zero, Nat.zero_add]
 rw [cell_of_row _ _ _ _ _ _ h1]
 simpa using hu
section
variable {α : Type} {ty : Ty α} {P : Program} {ops : Array Oper} {rest : List Oper} {o : Oper} {a : Act} {Q : Exit → Act → World → Prop}
/-- append(v, x): the goal's world is W with the box of x. -/
theorem wpList_own_append1 {w W : World} {S Sy : Nat → Prop} {v : Value} {xs : List α} {x : α} {cs : Array Value} (hgd : o.guard = none) (s y : Operand) (t e : TypeId) (bytes : Nat) (z : Value)
  (ho : o.op = .call { callee := .builtin .append, args := #[s, y], argTypes := #[t, t] }) (he : ElemOf P t e ty.sz bytes z)
  {H : Nat} (hs : a.eval s = v) (hown : Own ty e W S v xs) (hx : a.eval y = .slice (some ⟨H, 0, none⟩) 1 1) (hH : W.heap.size = H) (hk : ty.K W Sy x cs.toList)
  (HB : Below w.heap.size w W) (hSw : ∀ k, S k → w.heap.size ≤ k) (hSn : ∀ k, w.heap.size ≤ k → W.heap.size ≤ k → S k)
  (hbytes : (xs.length + 1) * bytes ≤ 140737488355328) (hlen : xs.length + 1 ≤ maxLen) (hin : ∀ k, Sy k → k < W.heap.size → S k ∧ v.ownBlock ≠ some k)
  (h : ∀ v' w', Own ty e w' S v' (xs ++ [x]) → Below w.heap.size w w' → W.grownBy w' v.ownBlock → (v'.ownBlock = v.ownBlock ∨ v'.ownBlock = some (W.heap.size + 1)) → wpList P ops Q rest (a.put o.dst v') w') :
  wpList P ops Q (o :: rest) a (W.alloc (.cells cs e)) := by
 subst hH
 have hsz := HB.size
 have hlt := hown.lt
 have hb := Row.box ty W e (fun k => Sy k ∧ k < W.heap.size ∨ k = W.heap.size) (ty.mono (fun k h1 h2 => .inl ⟨h1, h2⟩) hk) (.inr rfl)
 have e0 : cs.toList.toArray = cs := by simp
 rw [e0] at hb
 refine wpList_own_append (W := W.alloc (.cells cs e)) (S := S) (v := v) (xs := xs) (ys := [x]) hgd s y t e bytes z ho he hs (hown.move (Same.of_alloc _ _ _)) _ 1 1 hx hb rfl hbytes hlen (by rw [World.size_alloc]; exact hSn _ (by omega) (by omega)) ?_ ?_
 ·
  intro k hk _
  rcases hk with ⟨h1, h2⟩ | rfl
  ·
   exact hin k h1 h2
  ·
   exact ⟨hSn _ hsz (Nat.le_refl _), fun e => by have := hlt _ e; omega⟩
 ·
  intro v' w' h1 h2 h3
  rw [World.size_alloc] at h3
  have hg : W.grownBy w' v.ownBlock := World.grownBy.trans (World.grownBy_alloc W _ _) h2
  exact h v' w' h1 (HB.grown hg hsz fun k hk => hSw k (hown.1 k hk)) hg h3
end
end Go.Proofs.YtpehmmdbjakkpaaGreat
namespace Go.Proofs.YtpehmmdbjakkpaaGreat
open Go.RowKit
theorem Own.moveF {α : Type} {t : Ty α} {e : TypeId} {w w' : World} {S : Nat → Prop} {v : Value} {xs : List α} (hf : ∀ {W W' : World} {S x cs}, t.K W S x cs → t.K W' S x cs) (h : Own t e w S v xs) (hs : ∀ k, v.ownBlock = some k → w'.heap[k]? = w.heap[k]?) : Own t e w' S v xs := by
 obtain ⟨hS, inner, ho, hk⟩ := h
 exact ⟨hS, inner, ownsRow_same ho hs, fun j x hj => hf (hk j x hj)⟩
theorem Own.cells {α : Type} {t : Ty α} {e : TypeId} {w : World} {S : Nat → Prop} {v : Value} {xs : List α} (h : Own t e w S v xs) {k : Nat} (hk : v.ownBlock = some k) : ∃ cs, w.heap[k]? = some (.cells cs e (0, 0)) := by
 obtain ⟨hS, inner, ho, _⟩ := h
 rcases ho.2 with ⟨rfl, _⟩ | ⟨g, cap, cur, rfl, _, hh, _⟩
 ·
  simp [Value.ownBlock] at hk
 ·
  obtain rfl : g = k := by simpa [Value.ownBlock] using hk
  exact ⟨cur, hh⟩
end Go.Proofs.YtpehmmdbjakkpaaGreat
namespace Go.Proofs.YtpehmmdbjakkpaaGreat
open Go.RowKit Go.ChangeShapes Go.WideShapes Go.Deep
/-- Whatever reads at type T reads as a t, and ok holds of it. -/
structure Reads {α : Type} (P : Program) (t : Ty α) (T : TypeId) (ok : α → Prop) : Prop where
 sz : P.cellsOf T = t.sz
 read : ∀ {H : Type} {enc : TypeId × Value → H} {w : World} {base : Nat} {spare : Nat → Bool} {held : Bool} {fuel : Nat} {cs : List Value} {y : DataW H × List MemPlace}, DataW.trod enc P w base spare held fuel T cs = some y → ∃ x, t.K w (fun _ => True) x cs ∧ ok x
end Go.Proofs.YtpehmmdbjakkpaaGreat
namespace Go.Proofs.YtpehmmdbjakkpaaGreat
open Go.RowKit
section
variable {P : Program} {ops : Array Oper} {Q : Exit → Act → World → Prop} {S0 S1 : World → Prop} {md : Region.Mode}
def wpAnyG (P : Program) (md : Region.Mode) (ops : Array Oper) (Q : Exit → Act → World → Prop) (g : Nat) (S0 S1 : World → Prop) : Nat → Array Bool → Act → World → Prop
 | 0, listed, a, w => Region.ready md ops listed = [] ∧ Q .normal a w
 | fuel + 1, listed, a, w =>
  (Region.ready md ops listed = [] → Q .normal a w) ∧
  ∀ i ∈ Region.ready md ops listed, wpOp P ops Q i (fun a' w' => (if (listed.setIfInBounds i true).getD g true = true then S1 w' else S0 w') ∧ wpAnyG P md ops Q g S0 S1 fuel (listed.setIfInBounds i true) a' w') a w
theorem wpAny_of_G {g : Nat} : ∀ (fuel : Nat) (listed : Array Bool) (a : Act) (w : World), wpAnyG P md ops Q g S0 S1 fuel listed a w → wpAny P md ops Q fuel listed a w
 | 0, _, _, _, h => h
 | fuel + 1, _, _, _, h => ⟨h.1, fun i hi => wpOp_mono (fun a' w' h' => wpAny_of_G fuel _ a' w' h'.2) (h.2 i hi)⟩
theorem getD_set_true {l : Array Bool} {g i : Nat} (h : l.getD g true = true) : (l.setIfInBounds i true).getD g true = true := by
 by_cases hgi : i = g
 ·
  subst hgi
  rw [Array.getD_eq_getD_getElem?, Array.getElem?_setIfInBounds]
  split
  ·
   split <;> simp
  ·
   simp_all
 ·
  rw [getD_set_ne true hgi]; exact h
theorem G_of_H {g : Nat} : ∀ (fuel : Nat) (listed : Array Bool) (a : Act) (w : World), listed.getD g true = true → wpAnyH P md ops Q S1 fuel listed a w → wpAnyG P md ops Q g S0 S1 fuel listed a w
 | 0, _, _, _, _, h => h
 | fuel + 1, _, _, _, hl, h => ⟨h.1, fun i hi => wpOp_mono (fun a' w' h' => ⟨by rw [if_pos (getD_set_true hl)]; exact h'.1, G_of_H fuel _ a' w' (getD_set_true hl) h'.2⟩) (h.2 i hi)⟩
theorem wpAnyG_first {i g : Nat} {oi og : Oper} {v : Value} (hi : ops[i]? = some oi) (hog : ops[g]? = some og) (hw : ∃ e ∈ og.after, Region.binds md e = true ∧ e.on = i)
  (hsel : ∀ (j : Nat) (o : Oper) cs b, ops[j]? = some o → o.op ≠ .select cs b)
  (hQ : ∀ c a w, Q (.panic c) (a.put oi.dst v) w → Q (.panic c) a w) :
  ∀ (fuel : Nat) (listed : Array Bool) (a : Act) (w : World),
   (∀ j oj, ops[j]? = some oj → j ≠ i → listed.getD j true = false → (∀ e ∈ oj.after, Region.binds md e = true → e.on ≠ i) → oi.apart ops oj = true) →
   i ∈ Region.ready md ops listed → listed.getD g true = false → g ≠ i → YieldsIf P ops S0 oi v a → S0 w →
   wpAnyG P md ops Q g S0 S1 fuel (listed.setIfInBounds i true) (a.put oi.dst v) w → wpAnyG P md ops Q g S0 S1 (fuel + 1) listed a w := by
 intro fuel
 induction fuel with
 | zero =>
  intro listed a w _ hr hl hgi hy hS H
  refine ⟨fun h => (by rw [h] at hr; cases hr), fun j hj => ?_⟩
  by_cases hji : j = i
  ·
   subst hji; exact hy.wpOp hi hS ⟨by rw [if_neg (by rw [getD_set_ne true (Ne.symm hgi)]; simp [hl])]; exact hS, H⟩
  ·
   have := ready_mono hj hji
   rw [H.1] at this
   cases this
 | succ fuel ih =>
  intro listed a w hfree hr hl hgi hy hS H
  refine ⟨fun h => (by rw [h] at hr; cases hr), fun j hj => ?_⟩
  by_cases hji : j = i
  ·
   subst hji; exact hy.wpOp hi hS ⟨by rw [if_neg (by rw [getD_set_ne true (Ne.symm hgi)]; simp [hl])]; exact hS, H⟩
  ·
   have h1 := H.2 j (ready_mono hj hji)
   obtain ⟨hjun, oj, hoj, hall⟩ := mem_ready.1 hj
   have hnot : ∀ e ∈ oj.after, Region.binds md e = true → e.on ≠ i := fun e he hb heq => by
    have h1 := hall e he hb
    have h0 := (mem_ready.1 hr).1
    rw [heq] at h1
    rcases Nat.lt_or_ge i listed.size with h' | h'
    ·
     simp [h'] at h0 h1; rw [h0] at h1; cases h1
    ·
     simp [Array.getElem?_eq_none h'] at h1
   have hjg : j ≠ g := by
    rintro rfl
    rw [hog] at hoj
    injection hoj with hoj
    subst hoj
    obtain ⟨e, he, hb, heq⟩ := hw
    exact hnot e he hb heq
   have h2 := wpOp_putIf hoj (hfree j oj hoj hji hjun hnot) (fun cs b => hsel i oi cs b hi) (fun cs b => hsel j oj cs b hoj) hQ hy h1
   have hfree' : ∀ k ok, ops[k]? = some ok → k ≠ i → (listed.setIfInBounds j true).getD k true = false →
     (∀ e ∈ ok.after, Region.binds md e = true → e.on ≠ i) → oi.apart ops ok = true := fun k ok hk hki hun hno => by
    refine hfree k ok hk hki ?_ hno
    by_cases hjk : j = k
    ·
     subst hjk; exact hjun
    ·
     rw [getD_set_ne true hjk] at hun; exact hun
   have hlj : (listed.setIfInBounds j true).getD g true = false := by rw [getD_set_ne true hjg]; exact hl
   have hlij : ((listed.setIfInBounds i true).setIfInBounds j true).getD g true = false := by rw [getD_set_ne true hjg, getD_set_ne true (Ne.symm hgi)]; exact hl
   refine wpOp_mono (fun a' w' h3 => ?_) h2
   obtain ⟨h4, h5, h6⟩ := h3
   rw [if_neg (by simp [hlij])] at h5
   refine ⟨by rw [if_neg (by simp [hlj])]; exact h5, ih (listed.setIfInBounds j true) a' w' hfree' (ready_mono hr (Ne.symm hji)) hlj hgi h4 h5 ?_⟩
   rw [Array.setIfInBounds_comm _ _ hji]
   exact h6
theorem wpAnyG_all {g : Nat} {rs : List Nat} {fuel : Nat} {listed : Array Bool} {a : Act} {w : World} (hr : Region.ready md ops listed = rs) (hne : rs ≠ [])
  (h : ∀ i ∈ rs, wpOp P ops Q i (fun a' w' => (if (listed.setIfInBounds i true).getD g true = true then S1 w' else S0 w') ∧ wpAnyG P md ops Q g S0 S1 fuel (listed.setIfInBounds i true) a' w') a w) : wpAnyG P md ops Q g S0 S1 (fuel + 1) listed a w :=
 ⟨fun h0 => absurd (hr ▸ h0) hne, hr ▸ h⟩
end
def waitsB (ops : Array Oper) (g i : Nat) : Bool := match ops[g]? with
 | some o => o.after.any fun e => Region.binds .any e && e.on == i
 | none => false
def schedOk2 (ops : Array Oper) (g : Nat) (s2 : List (Nat × Bool)) : List (Nat × Bool) → Array Bool → Bool
 | [], l => Region.ready .any ops l == [g] && decide (g < l.size) && schedOk ops s2 (l.setIfInBounds g true)
 | (i, true) :: r, l => Region.free .any ops l i && (Region.ready .any ops l).contains i && waitsB ops g i && decide (g ≠ i) && schedOk2 ops g s2 r (l.setIfInBounds i true)
 | (i, false) :: r, l => Region.ready .any ops l == [i] && decide (g ≠ i) && schedOk2 ops g s2 r (l.setIfInBounds i true)
def schedB2 (ops : Array Oper) (s1 : List (Nat × Bool)) (g : Nat) (s2 : List (Nat × Bool)) : Bool := Region.noSelect ops && s1.length + (s2.length + 1) == ops.size && schedOk2 ops g s2 s1 (Array.replicate ops.size false)
def Sched2Post (K : Act → World → Prop) (S0 : World → Prop) (e : Exit) (a' : Act) (w' : World) : Prop := e = .normal ∧ S0 w' ∧ K a' w'
/-- The walk of a region in the order s1, g, s2: S0 ahead of g, S1 behind it. -/
def wpSched2 (P : Program) (ops : Array Oper) (Q : Act → World → Prop) (g : Nat) (s2 : List (Nat × Bool)) (S0 S1 : World → Prop) : List (Nat × Bool) → Act → World → Prop
 | [], a, w => ∃ o, ops[g]? = some o ∧ wpList P ops (SchedPost (wpSched P ops Q s2) S1) [o] a w
 | (i, true) :: r, a, w => ∃ o v, ops[i]? = some o ∧ YieldsIf P ops S0 o v a ∧ S0 w ∧ wpSched2 P ops Q g s2 S0 S1 r (a.put o.dst v) w
 | (i, false) :: r, a, w => ∃ o, ops[i]? = some o ∧ wpList P ops (Sched2Post (wpSched2 P ops Q g s2 S0 S1 r) S0) [o] a w
section
variable {P : Program} {ops : Array Oper} {Q : Act → World → Prop} {S0 S1 : World → Prop} {a : Act} {w : World} {i g : Nat} {r s2 : List (Nat × Bool)} {o : Oper}
theorem sched2_take {v : Value} (ho : ops[i]? = some o) (hy : YieldsIf P ops S0 o v a) (hS : S0 w) (h : wpSched2 P ops Q g s2 S0 S1 r (a.put o.dst v) w) : wpSched2 P ops Q g s2 S0 S1 ((i, true) :: r) a w := ⟨o, v, ho, hy, hS, h⟩
theorem sched2_step (ho : ops[i]? = some o) (h : wpList P ops (Sched2Post (wpSched2 P ops Q g s2 S0 S1 r) S0) [o] a w) : wpSched2 P ops Q g s2 S0 S1 ((i, false) :: r) a w := ⟨o, ho, h⟩
theorem sched2_on (hS : S0 w) (h : wpSched2 P ops Q g s2 S0 S1 r a w) : Sched2Post (wpSched2 P ops Q g s2 S0 S1 r) S0 .normal a w := ⟨rfl, hS, h⟩
theorem sched2_go (ho : ops[g]? = some o) (h : wpList P ops (SchedPost (wpSched P ops Q s2) S1) [o] a w) : wpSched2 P ops Q g s2 S0 S1 [] a w := ⟨o, ho, h⟩
theorem waitsB_spec {og : Oper} (h : waitsB ops g i = true) (hog : ops[g]? = some og) : ∃ e ∈ og.after, Region.binds .any e = true ∧ e.on = i := by
 unfold waitsB at h
 rw [hog] at h
 obtain ⟨j, hj, h⟩ := Array.any_iff_exists.1 h
 simp only [Bool.and_eq_true, beq_iff_eq] at h
 exact ⟨og.after[j], Array.getElem_mem _, h.2.2.1, h.2.2.2⟩
/-- One step, whatever its K says. -/
theorem wpOp_of_list {Q' : Exit → Act → World → Prop} {R : Exit → Act → World → Prop} {K : Act → World → Prop} (ho : ops[i]? = some o) (hn : ∀ e a w, R e a w → e = .normal) (hK : ∀ a w, R .normal a w → K a w) (h : wpList P ops R [o] a w) : wpOp P ops Q' i K a w := by
 unfold wpOp
 rw [ho]
 simp only
 unfold wpList at h
 split
 ·
  rename_i hw
  rw [if_pos hw] at h
  rcases h with h | ⟨_, a', w', h⟩
  ·
   refine .inl (Oper.wp_mono (fun a w h => hK a w h) (oper_wp_q ?_ ?_ h))
   ·
    intro c a' w' h
    cases hn _ _ _ h
   ·
    rintro ⟨a', w', h⟩
    cases hn _ _ _ h
  ·
   cases hn _ _ _ h
 ·
  rename_i hw
  rw [if_neg hw] at h
  exact hK _ _ h
theorem wpAnyG_of_sched2 {Q' : Exit → Act → World → Prop} (hsel : Region.noSelect ops = true) (hp : ∀ c a w, ¬ Q' (.panic c) a w) (hQ : ∀ a w, Q a w → Q' .normal a w) :
  ∀ (s1 : List (Nat × Bool)) (l : Array Bool) (a : Act) (w : World), schedOk2 ops g s2 s1 l = true → l.getD g true = false → wpSched2 P ops Q g s2 S0 S1 s1 a w → wpAnyG P .any ops Q' g S0 S1 (s1.length + (s2.length + 1)) l a w := by
 intro s1
 induction s1 with
 | nil =>
  intro l a w hk hl h
  obtain ⟨o, ho, h⟩ := h
  simp only [schedOk2, Bool.and_eq_true, beq_iff_eq, decide_eq_true_eq] at hk
  obtain ⟨⟨hk1, hk2⟩, hk3⟩ := hk
  have hset : (l.setIfInBounds g true).getD g true = true := by
   rw [Array.getD_eq_getD_getElem?, Array.getElem?_setIfInBounds]
   simp [hk2]
  rw [show ([] : List (Nat × Bool)).length + (s2.length + 1) = s2.length + 1 by simp]
  refine wpAnyG_all hk1 (by simp) (fun j hj => ?_)
  obtain rfl : j = g := by simpa using hj
  refine wpOp_of_list ho (fun e a w h => h.1) (fun a' w' h2 => ?_) h
  obtain ⟨_, S', hs, hS', h3⟩ := h2
  exact ⟨by rw [if_pos hset]; exact hs _ hS', G_of_H _ _ _ _ hset (wpAnyH_mono hs _ _ _ _ (wpAnyH_of_sched hsel hp hQ s2 S' _ _ _ hk3 h3))⟩
 | cons e r ih =>
  intro l a w hk hl h
  obtain ⟨i, b⟩ := e
  rw [show ((i, b) :: r).length + (s2.length + 1) = (r.length + (s2.length + 1)) + 1 by simp; omega]
  cases b with
  | true =>
   obtain ⟨o, v, ho, hy, hS, hr⟩ := h
   simp only [schedOk2, Bool.and_eq_true, decide_eq_true_eq] at hk
   obtain ⟨⟨⟨⟨hk1, hk2⟩, hk3⟩, hk4⟩, hk5⟩ := hk
   have hog : ∃ og, ops[g]? = some og := by
    unfold waitsB at hk3
    split at hk3
    ·
     exact ⟨_, ‹_›⟩
    ·
     cases hk3
   obtain ⟨og, hog⟩ := hog
   exact wpAnyG_first ho hog (waitsB_spec hk3 hog) (Region.noSelect_spec hsel) (fun c a w h => (hp _ _ _ h).elim) _ _ _ _ (Region.free_spec ho hk1) (by simpa using hk2) hl hk4 hy hS (ih _ _ _ hk5 (by rw [getD_set_ne true (Ne.symm hk4)]; exact hl) hr)
  | false =>
   obtain ⟨o, ho, hr⟩ := h
   simp only [schedOk2, Bool.and_eq_true, beq_iff_eq, decide_eq_true_eq] at hk
   obtain ⟨⟨hk1, hk2⟩, hk3⟩ := hk
   have hl' : (l.setIfInBounds i true).getD g true = false := by rw [getD_set_ne true (Ne.symm hk2)]; exact hl
   refine wpAnyG_all hk1 (by simp) (fun j hj => ?_)
   obtain rfl : j = i := by simpa using hj
   refine wpOp_of_list ho (fun e a w h => h.1) (fun a' w' h2 => ?_) hr
   exact ⟨by rw [if_neg (by simp [hl'])]; exact h2.2.1, ih _ _ _ hk3 hl' h2.2.2⟩
/-- THE RULE. -/
theorem wp_region_sched2 {id : Nat} {Q' : Exit → Act → World → Prop} (s1 : List (Nat × Bool)) (g : Nat) (s2 : List (Nat × Bool)) (S0 S1 : World → Prop) (hm : P.follows .mixedOrders = true) (hB : schedB2 ops s1 g s2 = true) (hg : (Array.replicate ops.size false).getD g true = false)
  (h : wpSched2 P ops (fun a w => Q' .normal a w) g s2 S0 S1 s1 a w.drew) : (Code.region id ops true).wp P Q' a w := by
 simp only [schedB2, Bool.and_eq_true, beq_iff_eq] at hB
 refine Code.wp_mono (Q := fun e a w => e = .normal ∧ Q' e a w) (fun e a w h => h.2) ?_
 refine wp_region_any hm (wpAny_of_G (g := g) (S0 := S0) (S1 := S1) _ _ _ _ ?_)
 have h2 := wpAnyG_of_sched2 (Q' := fun e a w => e = .normal ∧ Q' e a w) hB.1.1 (fun c a w h => by cases h.1) (fun a w h => ⟨rfl, h⟩) s1 _ _ _ hB.2 hg h
 rwa [hB.1.2] at h2
end
end Go.Proofs.YtpehmmdbjakkpaaGreat
namespace Go.Proofs.YtpehmmdbjakkpaaGreat
open Go.RowKit
theorem wp_region_schedK {P : Program} {ops : Array Oper} {a : Act} {w : World} {id : Nat} {Q' : Exit → Act → World → Prop} (T : Nat → Prop) (s : List (Nat × Bool)) (hm : P.follows .mixedOrders = true) (hB : schedB ops s = true) (h : Kept w T w.drew → wpSched P ops (fun a w => Q' .normal a w) s (Kept w T) a w.drew) : (Code.region id ops true).wp P Q' a w :=
 wp_region_sched s (Kept w T) hm hB (h (Kept.refl w T).drew)
end Go.Proofs.YtpehmmdbjakkpaaGreat
namespace Go.Proofs.YtpehmmdbjakkpaaGreat
open Go.RowKit
inductive Tr where
 | nil
 | take (i : Nat) (t : Tr)
 | step (i : Nat) (t : Tr)
 | two (i : Nat) (t : Tr) (j : Nat) (u : Tr)
def Tr.len : Tr → Nat
 | .nil => 0
 | .take _ t => t.len + 1
 | .step _ t => t.len + 1
 | .two _ t _ _ => t.len + 1
def trOk (ops : Array Oper) : Tr → Array Bool → Bool
 | .nil, l => (Region.ready .any ops l).isEmpty
 | .take i t, l => Region.free .any ops l i && (Region.ready .any ops l).contains i && trOk ops t (l.setIfInBounds i true)
 | .step i t, l => Region.ready .any ops l == [i] && trOk ops t (l.setIfInBounds i true)
 | .two i t j u, l => Region.ready .any ops l == [i, j] && t.len == u.len && trOk ops t (l.setIfInBounds i true) && trOk ops u (l.setIfInBounds j true)
def trB (ops : Array Oper) (s : Tr) : Bool := Region.noSelect ops && s.len == ops.size && trOk ops s (Array.replicate ops.size false)
def wpTr (P : Program) (ops : Array Oper) (Q : Act → World → Prop) : Tr → (World → Prop) → Act → World → Prop
 | .nil, _, a, w => Q a w
 | .take i t, S, a, w => ∃ o v, ops[i]? = some o ∧ YieldsIf P ops S o v a ∧ S w ∧ wpTr P ops Q t S (a.put o.dst v) w
 | .step i t, S, a, w => ∃ o, ops[i]? = some o ∧ wpList P ops (SchedPost (wpTr P ops Q t) S) [o] a w
 | .two i t j u, S, a, w => (∃ o, ops[i]? = some o ∧ wpList P ops (SchedPost (wpTr P ops Q t) S) [o] a w) ∧ (∃ o, ops[j]? = some o ∧ wpList P ops (SchedPost (wpTr P ops Q u) S) [o] a w)
section
variable {P : Program} {ops : Array Oper} {Q : Act → World → Prop} {S S' : World → Prop} {a : Act} {w : World} {i j : Nat} {r u : Tr} {o o' : Oper}
theorem tr_take {v : Value} (ho : ops[i]? = some o) (hy : YieldsIf P ops S o v a) (hS : S w) (h : wpTr P ops Q r S (a.put o.dst v) w) : wpTr P ops Q (.take i r) S a w := ⟨o, v, ho, hy, hS, h⟩
theorem tr_step (ho : ops[i]? = some o) (h : wpList P ops (SchedPost (wpTr P ops Q r) S) [o] a w) : wpTr P ops Q (.step i r) S a w := ⟨o, ho, h⟩
theorem tr_two (ho : ops[i]? = some o) (h : wpList P ops (SchedPost (wpTr P ops Q r) S) [o] a w) (ho' : ops[j]? = some o') (h' : wpList P ops (SchedPost (wpTr P ops Q u) S) [o'] a w) : wpTr P ops Q (.two i r j u) S a w := ⟨⟨o, ho, h⟩, ⟨o', ho', h'⟩⟩
theorem tr_done (h : Q a w) : wpTr P ops Q .nil S a w := h
theorem tr_on (hS : S w) (h : wpTr P ops Q r S a w) : SchedPost (wpTr P ops Q r) S .normal a w := ⟨rfl, S, fun _ h => h, hS, h⟩
theorem wpOp_of_step {Q' : Exit → Act → World → Prop} {fuel : Nat} {l : Array Bool} (ho : ops[i]? = some o)
  (ih : ∀ (S' : World → Prop) (a' : Act) (w' : World), wpTr P ops Q r S' a' w' → wpAnyH P .any ops Q' S' fuel l a' w')
  (hr : wpList P ops (SchedPost (wpTr P ops Q r) S) [o] a w) : wpOp P ops Q' i (fun a' w' => S w' ∧ wpAnyH P .any ops Q' S fuel l a' w') a w := by
 unfold wpOp
 rw [ho]
 simp only
 unfold wpList at hr
 split
 ·
  rename_i hw
  rw [if_pos hw] at hr
  rcases hr with hr | ⟨_, a', w', hr, _⟩
  ·
   refine .inl (Oper.wp_mono ?_ (oper_wp_q ?_ ?_ hr))
   ·
    rintro a' w' ⟨_, S', hs, hS', h2⟩
    exact ⟨hs _ hS', wpAnyH_mono hs _ _ _ _ (ih S' _ _ h2)⟩
   ·
    rintro c a' w' ⟨he, _⟩
    cases he
   ·
    rintro ⟨a', w', he, _⟩
    cases he
  ·
   cases hr
 ·
  rename_i hw
  rw [if_neg hw] at hr
  obtain ⟨_, S', hs, hS', h2⟩ := hr
  exact ⟨hs _ hS', wpAnyH_mono hs _ _ _ _ (ih S' _ _ h2)⟩
theorem wpAnyH_of_tr {Q' : Exit → Act → World → Prop} (hsel : Region.noSelect ops = true) (hp : ∀ c a w, ¬ Q' (.panic c) a w) (hQ : ∀ a w, Q a w → Q' .normal a w) :
  ∀ (s : Tr) (S : World → Prop) (l : Array Bool) (a : Act) (w : World), trOk ops s l = true → wpTr P ops Q s S a w → wpAnyH P .any ops Q' S s.len l a w := by
 intro s
 induction s with
 | nil =>
  intro S l a w hk h
  exact ⟨by simpa [trOk] using hk, hQ _ _ h⟩
 | take i t ih =>
  intro S l a w hk h
  obtain ⟨o, v, ho, hy, hS, hr⟩ := h
  simp only [trOk, Bool.and_eq_true] at hk
  exact wpAnyH_take ho hsel hk.1.1 hk.1.2 (fun c a w h => (hp _ _ _ h).elim) hy hS (ih S _ _ _ hk.2 hr)
 | step i t ih =>
  intro S l a w hk h
  obtain ⟨o, ho, hr⟩ := h
  simp only [trOk, Bool.and_eq_true, beq_iff_eq] at hk
  refine wpAnyH_all hk.1 (by simp) (fun j hj => ?_)
  obtain rfl : j = i := by simpa using hj
  exact wpOp_of_step ho (fun S' a' w' h2 => ih S' _ _ _ hk.2 h2) hr
 | two i t j u ih ih' =>
  intro S l a w hk h
  obtain ⟨⟨o, ho, hr⟩, ⟨o', ho', hr'⟩⟩ := h
  simp only [trOk, Bool.and_eq_true, beq_iff_eq] at hk
  refine wpAnyH_all hk.1.1.1 (by simp) (fun k hj => ?_)
  have hj' : k = i ∨ k = j := by simpa using hj
  rcases hj' with rfl | rfl
  ·
   exact wpOp_of_step ho (fun S' a' w' h2 => ih S' _ _ _ hk.1.2 h2) hr
  ·
   have e := hk.1.1.2
   refine wpOp_of_step ho' (fun S' a' w' h2 => ?_) hr'
   have := ih' S' _ _ _ hk.2 h2
   rw [← e] at this
   exact this
theorem wp_region_tr {id : Nat} {Q' : Exit → Act → World → Prop} (T : Nat → Prop) (s : Tr) (hm : P.follows .mixedOrders = true) (hB : trB ops s = true) (h : Kept w T w.drew → wpTr P ops (fun a w => Q' .normal a w) s (Kept w T) a w.drew) : (Code.region id ops true).wp P Q' a w := by
 simp only [trB, Bool.and_eq_true, beq_iff_eq] at hB
 refine Code.wp_mono (Q := fun e a w => e = .normal ∧ Q' e a w) (fun e a w h => h.2) ?_
 refine wp_region_held (S := Kept w T) hm ?_
 have h2 := wpAnyH_of_tr (Q' := fun e a w => e = .normal ∧ Q' e a w) hB.1.1 (fun c a w h => by cases h.1) (fun a w h => ⟨rfl, h⟩) s (Kept w T) _ a _ hB.2 (h (Kept.refl w T).drew)
 rwa [hB.1.2] at h2
end
end Go.Proofs.YtpehmmdbjakkpaaGreat
namespace Go.Proofs.YtpehmmdbjakkpaaGreat
open Go.RowKit
section
variable {P : Program} {α : Type} {ty : Ty α} {ops : Array Oper} {rest : List Oper} {o : Oper} {a : Act} {Q : Exit → Act → World → Prop}
theorem wpList_own_appendS {w W : World} {S Sy : Nat → Prop} {v : Value} {xs : List α} {x : α} {cs : Array Value} (hgd : o.guard = none) (s y : Operand) (t e : TypeId) (bytes : Nat) (z : Value)
  (ho : o.op = .call { callee := .builtin .append, args := #[s, y], argTypes := #[t, t] }) (he : ElemOf P t e ty.sz bytes z)
  {H : Nat} (hs : a.eval s = v) (hown : Own ty e W S v xs) (hx : a.eval y = .slice (some ⟨H, 0, none⟩) 1 1) (hH : W.heap.size = H) (hk : ty.K W Sy x cs.toList)
  (HB : Below w.heap.size w W) (hge : ∀ k, v.ownBlock = some k → w.heap.size ≤ k) (hSn : ∀ k, W.heap.size ≤ k → S k)
  (hbytes : (xs.length + 1) * bytes ≤ 140737488355328) (hlen : xs.length + 1 ≤ maxLen) (hin : ∀ k, Sy k → k < W.heap.size → S k ∧ v.ownBlock ≠ some k)
  (h : ∀ v' w', Own ty e w' S v' (xs ++ [x]) → Below w.heap.size w w' → (∀ k, v'.ownBlock = some k → w.heap.size ≤ k) → W.grownBy w' v.ownBlock → wpList P ops Q rest (a.put o.dst v') w') :
  wpList P ops Q (o :: rest) a (W.alloc (.cells cs e)) := by
 subst hH
 have hsz := HB.size
 have hlt := hown.lt
 have hb := Row.box ty W e (fun k => Sy k ∧ k < W.heap.size ∨ k = W.heap.size) (ty.mono (fun k h1 h2 => .inl ⟨h1, h2⟩) hk) (.inr rfl)
 have e0 : cs.toList.toArray = cs := by simp
 rw [e0] at hb
 refine wpList_own_append (W := W.alloc (.cells cs e)) (S := S) (v := v) (xs := xs) (ys := [x]) hgd s y t e bytes z ho he hs (hown.move (Same.of_alloc _ _ _)) _ 1 1 hx hb rfl hbytes hlen (by rw [World.size_alloc]; exact hSn _ (by omega)) ?_ ?_
 ·
  intro k hk _
  rcases hk with ⟨h1, h2⟩ | rfl
  ·
   exact hin k h1 h2
  ·
   exact ⟨hSn _ (Nat.le_refl _), fun e => by have := hlt _ e; omega⟩
 ·
  intro v' w' h1 h2 h3
  rw [World.size_alloc] at h3
  have hg : W.grownBy w' v.ownBlock := World.grownBy.trans (World.grownBy_alloc W _ _) h2
  exact h v' w' h1 (HB.grown hg hsz fun k hk => hge k hk) (fun k hk => by
   rcases h3 with h3 | h3
   ·
    exact hge k (h3 ▸ hk)
   ·
    rw [h3] at hk; injection hk with hk; omega) hg
end
end Go.Proofs.YtpehmmdbjakkpaaGreat


