/- A literal of several, appended; a literal's row. -/
import Derived.Test.YtgpmkcipogljbaaLib3
namespace Go.Proofs.Ytgpmkcipogljbaa
open Go.RowKit
set_option linter.unusedVariables false
theorem row_ofBox {α : Type} (t : Ty α) (w : World) (S : Nat → Prop) (cs : Array Value) (e : TypeId) (xs : List α) (hl : xs.length ≤ maxLen) (hS : S w.heap.size) (hcs : ∀ j x, xs[j]? = some x → ∃ c, t.K (w.alloc (.cells cs e)) S x c ∧ ∀ i u, c[i]? = some u → cs[j * t.sz + i]? = some u) :
    Row t (w.alloc (.cells cs e)) S (.slice (some ⟨w.heap.size, 0, none⟩) xs.length xs.length) xs := by
  refine ⟨_, _, rfl, Nat.le_refl _, hl, by simp, .inr ⟨_, _, rfl, hS, by simp, fun j x hj => ?_⟩⟩
  obtain ⟨c, hk, hc⟩ := hcs j x hj
  refine ⟨c, hk, fun i u hu => ?_⟩
  rw [cell_of_row _ _ _ _ _ _ (heap_alloc_new w (.cells cs e)), Nat.zero_add]
  exact hc i u hu
section
variable {α : Type} {ty : Ty α} {P : Program} {ops : Array Oper} {rest : List Oper} {o : Oper} {a : Act} {Q : Exit → Act → World → Prop}
/-- append(v, x, y, ..): the goal's world is W with the box of them. -/
theorem wpList_own_appendB {w W : World} {S : Nat → Prop} {v : Value} {xs ys : List α} {cs : Array Value} {et : TypeId} (hgd : o.guard = none) (s y : Operand) (t e : TypeId) (bytes : Nat) (z : Value)
    (ho : o.op = .call { callee := .builtin .append, args := #[s, y], argTypes := #[t, t] }) (he : ElemOf P t e ty.sz bytes z)
    {H m : Nat} (hs : a.eval s = v) (hown : Own ty e W S v xs) (hx : a.eval y = .slice (some ⟨H, 0, none⟩) m m) (hH : W.heap.size = H)
    (hrow : Row ty (W.alloc (.cells cs et)) (fun k => k = W.heap.size) (.slice (some ⟨W.heap.size, 0, none⟩) m m) ys) (hm : m = ys.length)
    (HB : Below w.heap.size w W) (hSw : ∀ k, S k → w.heap.size ≤ k) (hSn : ∀ k, w.heap.size ≤ k → W.heap.size ≤ k → S k)
    (hbytes : (xs.length + ys.length) * bytes ≤ 140737488355328) (hlen : xs.length + ys.length ≤ maxLen)
    (h : ∀ v' w', Own ty e w' S v' (xs ++ ys) → Below w.heap.size w w' → W.grownBy w' v.ownBlock → wpList P ops Q rest (a.put o.dst v') w') :
    wpList P ops Q (o :: rest) a (W.alloc (.cells cs et)) := by
  subst hH
  have hsz := HB.size
  have hlt := hown.lt
  refine wpList_own_append (W := W.alloc (.cells cs et)) (S := S) (v := v) (xs := xs) (ys := ys) hgd s y t e bytes z ho he hs (hown.move (Same.of_alloc _ _ _)) _ m m hx hrow hm hbytes hlen (by rw [World.size_alloc]; exact hSn _ (by omega) (by omega)) ?_ ?_
  · rintro k rfl _
    exact ⟨hSn _ hsz (Nat.le_refl _), fun e => by have := hlt _ e; omega⟩
  · intro v' w' h1 h2 h3
    have hg : W.grownBy w' v.ownBlock := World.grownBy.trans (World.grownBy_alloc W _ _) h2
    exact h v' w' h1 (HB.grown hg hsz fun k hk => hSw k (hown.1 k hk)) hg
end
end Go.Proofs.Ytgpmkcipogljbaa
