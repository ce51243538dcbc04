/- A part of a slice; what a call hands back. -/
import Derived.Test.YtpehmmdbjakkpaaLib2
namespace Go.Proofs.Ytpehmmdbjakkpaa
open Go.RowKit
/-- A part of a slice, by its cells. -/
theorem Row.sub {α : Type} {t : Ty α} {w : World} {S : Nat → Prop} {b off n c : Nat} {xs : List α} (h : Row t w S (.slice (some ⟨b, off, none⟩) n c) xs) {i m c' : Nat} (hm : i + m ≤ n) (hc : m ≤ c') (hc' : c' ≤ maxLen) :
    Row t w S (.slice (some ⟨b, off + i * t.sz, none⟩) m c') ((xs.drop i).take m) := by
  obtain ⟨A, cc, hv, h1, h2, h3, h4⟩ := h
  injection hv with e1 e2 e3
  subst e1 e2 e3
  have hl : ((xs.drop i).take m).length = m := by rw [List.length_take, List.length_drop]; omega
  refine ⟨_, c', by rw [hl], by rw [hl]; exact hc, hc', by simp, ?_⟩
  rcases h4 with rfl | ⟨b', off', he, hb, hlt, hel⟩
  · exact .inl (by simp)
  · injection he with he
    injection he with he1 he2
    subst he1 he2
    refine .inr ⟨_, _, rfl, hb, hlt, fun j x hj => ?_⟩
    rw [List.getElem?_take] at hj
    split at hj
    · rw [List.getElem?_drop] at hj
      obtain ⟨cs, hk, hr⟩ := hel _ x hj
      refine ⟨cs, hk, ?_⟩
      rw [show off + i * t.sz + j * t.sz = off + (i + j) * t.sz by rw [Nat.add_mul]; omega]
      exact hr
    · cases hj
/-- What is handed back is the call's own slice. -/
def RetOwn {α : Type} (t : Ty α) (e : TypeId) (w : World) (xs : List α) (en : Ending) (w' : World) : Prop := ∃ v, en = .returned v ∧ Own t e w' (fun k => w.heap.size ≤ k) v xs ∧ Below w.heap.size w w'
theorem RetOwn.mk {α : Type} {t : Ty α} {e : TypeId} {w w' : World} {xs : List α} {v : Value} (h : Own t e w' (fun k => w.heap.size ≤ k) v xs) (hb : Below w.heap.size w w') : RetOwn t e w xs (.returned v) w' := ⟨v, rfl, h, hb⟩
theorem below_of_grown {w wc w1 : World} {row : Option Nat} (hb : Below w.heap.size w wc) (hg : wc.grownBy w1 row) (hr : ∀ k, row = some k → w.heap.size ≤ k) : Below w.heap.size w w1 := hb.grown hg hb.size hr
/-- The box of one element that is appended. -/
theorem Row.box {α : Type} (t : Ty α) (W : World) {x : α} {cs : List Value} (e : TypeId) (S : Nat → Prop) (hk : t.K W S x cs) (hS : S W.heap.size) : Row t (W.alloc (.cells cs.toArray e)) S (.slice (some ⟨W.heap.size, 0, none⟩) 1 1) [x] := by
  refine ⟨_, 1, rfl, Nat.le_refl _, by unfold maxLen; omega, by simp, .inr ⟨_, _, rfl, hS, by simp, fun j y hj => ?_⟩⟩
  obtain ⟨rfl, rfl⟩ : j = 0 ∧ x = y := by
    cases j with
    | zero => simpa using hj
    | succ j => simp at hj
  refine ⟨cs, t.move (Same.of_alloc _ _ _) hk, fun i u hu => ?_⟩
  have h1 := heap_alloc_new W (.cells cs.toArray e)
  rw [Nat.zero_mul, Nat.add_zero, Nat.zero_add]
  rw [cell_of_row _ _ _ _ _ _ h1]
  simpa using hu
section
variable {α : Type} {ty : Ty α} {P : Program} {ops : Array Oper} {rest : List Oper} {o : Oper} {a : Act} {Q : Exit → Act → World → Prop}
/-- append(v, x): the goal's world is W with the box of x. -/
theorem wpList_own_append1 {w W : World} {S Sy : Nat → Prop} {v : Value} {xs : List α} {x : α} {cs : Array Value} (hgd : o.guard = none) (s y : Operand) (t e : TypeId) (bytes : Nat) (z : Value)
    (ho : o.op = .call { callee := .builtin .append, args := #[s, y], argTypes := #[t, t] }) (he : ElemOf P t e ty.sz bytes z)
    {H : Nat} (hs : a.eval s = v) (hown : Own ty e W S v xs) (hx : a.eval y = .slice (some ⟨H, 0, none⟩) 1 1) (hH : W.heap.size = H) (hk : ty.K W Sy x cs.toList)
    (HB : Below w.heap.size w W) (hSw : ∀ k, S k → w.heap.size ≤ k) (hSn : ∀ k, w.heap.size ≤ k → W.heap.size ≤ k → S k)
    (hbytes : (xs.length + 1) * bytes ≤ 140737488355328) (hlen : xs.length + 1 ≤ maxLen) (hin : ∀ k, Sy k → k < W.heap.size → S k ∧ v.ownBlock ≠ some k)
    (h : ∀ v' w', Own ty e w' S v' (xs ++ [x]) → Below w.heap.size w w' → W.grownBy w' v.ownBlock → (v'.ownBlock = v.ownBlock ∨ v'.ownBlock = some (W.heap.size + 1)) → wpList P ops Q rest (a.put o.dst v') w') :
    wpList P ops Q (o :: rest) a (W.alloc (.cells cs e)) := by
  subst hH
  have hsz := HB.size
  have hlt := hown.lt
  have hb := Row.box ty W e (fun k => Sy k ∧ k < W.heap.size ∨ k = W.heap.size) (ty.mono (fun k h1 h2 => .inl ⟨h1, h2⟩) hk) (.inr rfl)
  have e0 : cs.toList.toArray = cs := by simp
  rw [e0] at hb
  refine wpList_own_append (W := W.alloc (.cells cs e)) (S := S) (v := v) (xs := xs) (ys := [x]) hgd s y t e bytes z ho he hs (hown.move (Same.of_alloc _ _ _)) _ 1 1 hx hb rfl hbytes hlen (by rw [World.size_alloc]; exact hSn _ (by omega) (by omega)) ?_ ?_
  · intro k hk _
    rcases hk with ⟨h1, h2⟩ | rfl
    · exact hin k h1 h2
    · exact ⟨hSn _ hsz (Nat.le_refl _), fun e => by have := hlt _ e; omega⟩
  · intro v' w' h1 h2 h3
    rw [World.size_alloc] at h3
    have hg : W.grownBy w' v.ownBlock := World.grownBy.trans (World.grownBy_alloc W _ _) h2
    exact h v' w' h1 (HB.grown hg hsz fun k hk => hSw k (hown.1 k hk)) hg h3
/-- Inside a fence: the goal's world is W with the box of x. -/
theorem wpListIn_own_append1 {F : Fence} {n : Nat} {w W : World} {S Sy : Nat → Prop} {v : Value} {xs : List α} {x : α} {cs : Array Value} (hgd : o.guard = none) (s y : Operand) (t e : TypeId) (bytes : Nat) (z : Value)
    (ho : o.op = .call { callee := .builtin .append, args := #[s, y], argTypes := #[t, t] }) (he : ElemOf P t e ty.sz bytes z)
    {H : Nat} (hs : a.eval s = v) (hown : Own ty e W S v xs) (hx : a.eval y = .slice (some ⟨H, 0, none⟩) 1 1) (hH : W.heap.size = H) (hk : ty.K W Sy x cs.toList)
    (HB : Below w.heap.size w W) (hSw : ∀ k, S k → w.heap.size ≤ k) (hSn : ∀ k, w.heap.size ≤ k → W.heap.size ≤ k → S k)
    (hbytes : (xs.length + 1) * bytes ≤ 140737488355328) (hlen : xs.length + 1 ≤ maxLen) (hin : ∀ k, Sy k → k < W.heap.size → S k ∧ v.ownBlock ≠ some k)
    (h : ∀ v' w', Own ty e w' S v' (xs ++ [x]) → Below w.heap.size w w' → W.grownBy w' v.ownBlock → (v'.ownBlock = v.ownBlock ∨ v'.ownBlock = some (W.heap.size + 1)) → wpListIn F n P ops Q rest (a.put o.dst v') w') :
    wpListIn F n P ops Q (o :: rest) a (W.alloc (.cells cs e)) := by
  subst hH
  have hsz := HB.size
  have hlt := hown.lt
  have hb := Row.box ty W e (fun k => Sy k ∧ k < W.heap.size ∨ k = W.heap.size) (ty.mono (fun k h1 h2 => .inl ⟨h1, h2⟩) hk) (.inr rfl)
  have e0 : cs.toList.toArray = cs := by simp
  rw [e0] at hb
  refine wpListIn_own_append (W := W.alloc (.cells cs e)) (S := S) (v := v) (xs := xs) (ys := [x]) hgd s y t e bytes z ho he hs (hown.move (Same.of_alloc _ _ _)) _ 1 1 hx hb rfl hbytes hlen (by rw [World.size_alloc]; exact hSn _ (by omega) (by omega)) ?_ ?_
  · intro k hk _
    rcases hk with ⟨h1, h2⟩ | rfl
    · exact hin k h1 h2
    · exact ⟨hSn _ hsz (Nat.le_refl _), fun e => by have := hlt _ e; omega⟩
  · intro v' w' h1 h2 h3
    rw [World.size_alloc] at h3
    have hg : W.grownBy w' v.ownBlock := World.grownBy.trans (World.grownBy_alloc W _ _) h2
    exact h v' w' h1 (HB.grown hg hsz fun k hk => hSw k (hown.1 k hk)) hg h3
end
end Go.Proofs.Ytpehmmdbjakkpaa
